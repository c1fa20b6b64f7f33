/- Several texts of this session in one (Pd, Dc). Written by this session, by tools of this session and by the kit's print. -/
import Derived.Test.YtdgifgdadminbaaDoorP1
import Derived.Test.YtdgifgdadminbaaDoorS1
import Derived.Laws.BitsLemmas
import Derived.Laws.Strings
import Derived.Test.YtdgifgdadminbaaDoorSh
import Derived.Lib.Hide
/-! ### Pd -/
set_option linter.unusedSimpArgs false
namespace Go.Proofs.YtdgifgdadminbaaDoor.PFileParses
open Go.RowKit Go.Proofs.YtdgifgdadminbaaDoorW.PrintWords Sp

theorem wrap_id {x : Int} (h0 : -9223372036854775808 ≤ x) (h1 : x ≤ 9223372036854775807) : wrap64 x = x := by unfold wrap64; omega

theorem ba_len (s : ByteArray) : s.data.toList.length = s.size := (Lib.size_eq s).symm
theorem bt_nat (s : ByteArray) (i : Nat) (h : i < s.data.toList.length) : bt s (i : Int) = ((s.data.toList[i]'h).toNat : Int) := by
  have h' : i < s.size := by rw [← ba_len]; exact h
  unfold bt
  rw [dif_pos (by simpa using h')]
  rfl
theorem toList_data (s : ByteArray) : s.toList = s.data.toList := by
  first
  | exact Go.ByteArray.toList_eq s
  | exact ByteArray.toList_eq s

theorem digits_l (s : ByteArray) (m : Int) (hs : s.size < 9223372036854775807) : ∀ (d i k : Nat), s.size - i = d → d < k → i ≤ s.size →
    deci_digits.l0 k s m (s.size : Int) (i : Int) = some ((s.data.toList.drop i).all isD && decide (1 ≤ s.size) && decide ((s.size : Int) ≤ m))
  | 0, i, k, hd, hk, hi => by
    obtain ⟨k, rfl⟩ : ∃ q, k = q + 1 := ⟨k - 1, by omega⟩
    have e : i = s.size := by omega
    subst e
    rw [deci_digits.l0, if_neg (by omega), List.drop_eq_nil_of_le (by rw [ba_len]; exact Nat.le_refl _)]
    by_cases h : 1 ≤ s.size
    · rw [if_pos (by omega)]
      simp [h]
    · rw [if_neg (by omega)]
      simp [h]
  | d + 1, i, k, hd, hk, hi => by
    obtain ⟨k, rfl⟩ : ∃ q, k = q + 1 := ⟨k - 1, by omega⟩
    have hl : i < s.data.toList.length := by rw [ba_len]; omega
    rw [deci_digits.l0, if_pos (by omega), if_pos (by omega), if_pos (by omega), bt_nat s i hl, List.drop_eq_getElem_cons hl, List.all_cons]
    by_cases h1 : (s.data.toList[i]'hl).toNat < 48
    · rw [if_pos (by omega)]
      have hD : isD (s.data.toList[i]'hl) = false := by
        simp only [isD, Bool.and_eq_false_iff, decide_eq_false_iff_not]
        omega
      rw [hD]
      rfl
    · rw [if_neg (by omega)]
      by_cases h2 : 57 < (s.data.toList[i]'hl).toNat
      · rw [if_pos (by omega)]
        have hD : isD (s.data.toList[i]'hl) = false := by
          simp only [isD, Bool.and_eq_false_iff, decide_eq_false_iff_not]
          omega
        rw [hD]
        rfl
      · rw [if_neg (by omega), wrap_id (by omega) (by omega)]
        have := digits_l s m hs d (i + 1) k (by omega) (by omega) (by omega)
        rw [show ((i : Int) + 1) = ((i + 1 : Nat) : Int) by omega, this]
        have hD : isD (s.data.toList[i]'hl) = true := by
          simp only [isD, Bool.and_eq_true, decide_eq_true_eq]
          omega
        simp only [hD, Bool.true_and]

theorem digits_f (s : ByteArray) (m : Int) (hs : s.size < 9223372036854775807) :
    ∃ k, deci_digits.f k s m = some (s.data.toList.all isD && decide (1 ≤ s.size) && decide ((s.size : Int) ≤ m)) :=
  ⟨s.size + 1, by simpa [deci_digits.f] using digits_l s m hs s.size 0 (s.size + 1) rfl (by omega) (by omega)⟩

theorem word_l (s : ByteArray) (hs : s.size < 9223372036854775807) : ∀ (d i k : Nat), s.size - i = d → d < k → i ≤ s.size →
    deci_word.l0 k s (s.size : Int) (i : Int) = some ((s.data.toList.drop i).all isW && decide (s.size ≠ 0))
  | 0, i, k, hd, hk, hi => by
    obtain ⟨k, rfl⟩ : ∃ q, k = q + 1 := ⟨k - 1, by omega⟩
    have e : i = s.size := by omega
    subst e
    rw [deci_word.l0, if_neg (by omega), List.drop_eq_nil_of_le (by rw [ba_len]; exact Nat.le_refl _), toList_data]
    have : s.size = s.data.toList.length := (ba_len s).symm
    rw [this]
    cases s.data.toList <;> simp
  | d + 1, i, k, hd, hk, hi => by
    obtain ⟨k, rfl⟩ : ∃ q, k = q + 1 := ⟨k - 1, by omega⟩
    have hl : i < s.data.toList.length := by rw [ba_len]; omega
    rw [deci_word.l0, if_pos (by omega), if_pos (by omega), if_pos (by omega), bt_nat s i hl, List.drop_eq_getElem_cons hl, List.all_cons]
    by_cases h1 : (s.data.toList[i]'hl).toNat < 33
    · rw [if_pos (by omega)]
      have hD : isW (s.data.toList[i]'hl) = false := by
        simp only [isW, Bool.and_eq_false_iff, decide_eq_false_iff_not]
        omega
      rw [hD]
      rfl
    · rw [if_neg (by omega)]
      by_cases h2 : 126 < (s.data.toList[i]'hl).toNat
      · rw [if_pos (by omega)]
        have hD : isW (s.data.toList[i]'hl) = false := by
          simp only [isW, Bool.and_eq_false_iff, decide_eq_false_iff_not]
          omega
        rw [hD]
        rfl
      · rw [if_neg (by omega), wrap_id (by omega) (by omega)]
        have := word_l s hs d (i + 1) k (by omega) (by omega) (by omega)
        rw [show ((i : Int) + 1) = ((i + 1 : Nat) : Int) by omega, this]
        have hD : isW (s.data.toList[i]'hl) = true := by
          simp only [isW, Bool.and_eq_true, decide_eq_true_eq]
          omega
        simp only [hD, Bool.true_and]

theorem word_f (s : ByteArray) (hs : s.size < 9223372036854775807) : ∃ k, deci_word.f k s = some (wordB s) :=
  ⟨s.size + 1, by simpa [deci_word.f, wordB] using word_l s hs s.size 0 (s.size + 1) rfl (by omega) (by omega)⟩

theorem isD_iff {b : UInt8} (h : isD b = true) : 48 ≤ b.toNat ∧ b.toNat ≤ 57 := by
  simpa [isD] using h
/-- The number of digits is below the power of ten. -/
theorem val_lt_from : ∀ (l : List UInt8) (n : Nat), l.all isD = true → l.foldl (fun n b => n * 10 + (b.toNat - 48)) n < (n + 1) * 10 ^ l.length
  | [], n, _ => by simp
  | b :: l, n, h => by
    simp only [List.all_cons, Bool.and_eq_true] at h
    have hb := isD_iff h.1
    have ih := val_lt_from l (n * 10 + (b.toNat - 48)) h.2
    simp only [List.foldl_cons, List.length_cons]
    refine Nat.lt_of_lt_of_le ih ?_
    rw [Nat.pow_succ, Nat.mul_comm (10 ^ l.length) 10, ← Nat.mul_assoc]
    exact Nat.mul_le_mul_right _ (by omega)
theorem val_lt {l : List UInt8} (h : l.all isD = true) : val l < 10 ^ l.length := by
  have := val_lt_from l 0 h
  simpa [val] using this
theorem val_snoc (l : List UInt8) (b : UInt8) : val (l ++ [b]) = val l * 10 + (b.toNat - 48) := by simp [val, List.foldl_append]
theorem val13 {l : List UInt8} (h : l.all isD = true) (hl : l.length ≤ 13) : val l < 10000000000000 := by
  have h1 := val_lt h
  have h2 : (10 : Nat) ^ l.length ≤ 10 ^ 13 := Nat.pow_le_pow_right (by omega) hl
  omega

theorem value_l (s : ByteArray) (hD : s.data.toList.all isD = true) (hs : s.size ≤ 13) : ∀ (d i k : Nat), s.size - i = d → d < k → i ≤ s.size →
    deci_value.l0 k s (val (s.data.toList.take i) : Int) (s.size : Int) (i : Int) = some (val s.data.toList : Int)
  | 0, i, k, hd, hk, hi => by
    obtain ⟨k, rfl⟩ : ∃ q, k = q + 1 := ⟨k - 1, by omega⟩
    have e : i = s.size := by omega
    subst e
    rw [deci_value.l0, if_neg (by omega), List.take_of_length_le (by rw [ba_len]; exact Nat.le_refl _)]
  | d + 1, i, k, hd, hk, hi => by
    obtain ⟨k, rfl⟩ : ∃ q, k = q + 1 := ⟨k - 1, by omega⟩
    have hl : i < s.data.toList.length := by rw [ba_len]; omega
    have hb := isD_iff (List.all_eq_true.1 hD _ (List.getElem_mem hl))
    have hv : val (s.data.toList.take i) < 10000000000000 := by
      refine val13 ?_ ?_
      · rw [List.all_eq_true] at hD ⊢
        exact fun b hb => hD b (List.mem_of_mem_take hb)
      · rw [List.length_take]; omega
    have hn : val (s.data.toList.take (i + 1)) = val (s.data.toList.take i) * 10 + ((s.data.toList[i]'hl).toNat - 48) := by
      rw [List.take_succ_eq_append_getElem hl, val_snoc]
    rw [deci_value.l0, if_pos (by omega), if_pos (by omega), if_pos (by omega), bt_nat s i hl]
    have e : wrap64 (wrap64 ((val (s.data.toList.take i) : Int) * 10) + (((s.data.toList[i]'hl).toNat : Int) - 48) % 256) = (val (s.data.toList.take (i + 1)) : Int) := by
      rw [wrap_id (x := (val (s.data.toList.take i) : Int) * 10) (by omega) (by omega), hn]
      rw [wrap_id (by omega) (by omega)]
      omega
    rw [e, wrap_id (by omega) (by omega), show ((i : Int) + 1) = ((i + 1 : Nat) : Int) by omega]
    exact value_l s hD hs d (i + 1) k (by omega) (by omega) (by omega)
theorem value_f (s : ByteArray) (hD : s.data.toList.all isD = true) (hs : s.size ≤ 13) : ∃ k, deci_value.f k s = some (val s.data.toList : Int) :=
  ⟨s.size + 1, by simpa [deci_value.f, val] using value_l s hD hs s.size 0 (s.size + 1) rfl (by omega) (by omega)⟩
theorem power_f : ∃ k, deci_power.f k 0 = some 1 := ⟨1, by simp [deci_power.f, deci_power.l0]⟩
theorem mul_f (a : Int) (h0 : 0 ≤ a) (h1 : a < 10000000000000) : ∃ k, num_Mul.f k a 1 = some (a, true) := by
  refine ⟨2, ?_⟩
  have hm : num_may.f a = some true := by
    unfold num_may.f
    rw [if_pos (by omega)]
    simp; omega
  have hm1 : num_may.f 1 = some true := by decide
  have hz : num_size.f a = some a := by
    unfold num_size.f
    rw [if_neg (by omega)]
    rw [IntKind.wrap_u64]
    congr 1
    omega
  have hz1 : num_size.f 1 = some 1 := by decide
  have hmul : bits_Mul64.f a 1 = some (0, a) := by
    have w64 : ∀ n : Int, 0 ≤ n → n < 2 ^ 64 → IntKind.u64.wrap n = n := fun n g0 g1 => by rw [IntKind.wrap_u64]; omega
    have hb : ∀ x : Int, 0 ≤ x → x < 18446744073709551616 → Go.bits .and .u64 x 4294967295 = x % 4294967296 := fun x g0 g1 => by
      have := bits_mask .u64 64 (by decide) w64 32 (by decide) x g0 (by omega)
      simpa using this
    have w : ∀ n : Int, 0 ≤ n → n < 18446744073709551616 → IntKind.u64.wrap n = n := fun n g0 g1 => by rw [IntKind.wrap_u64]; omega
    unfold bits_Mul64.f
    rw [hb a (by omega) (by omega), hb 1 (by omega) (by omega)]
    simp only [show (1 : Int) / 4294967296 = 0 by decide, show (1 : Int) % 4294967296 = 1 by decide, Int.mul_zero, Int.mul_one, Int.zero_add, Int.add_zero]
    have e0 : IntKind.u64.wrap 0 = 0 := by decide
    rw [w (a % 4294967296) (by omega) (by omega), w (a / 4294967296) (by omega) (by omega), w a (by omega) (by omega)]
    simp only [e0, Int.zero_add, Int.add_zero]
    rw [show a % 4294967296 / 4294967296 = 0 by omega, Int.add_zero, w (a / 4294967296) (by omega) (by omega), hb _ (by omega) (by omega)]
    rw [show a / 4294967296 / 4294967296 = 0 by omega, w (a / 4294967296 % 4294967296) (by omega) (by omega)]
    rw [show a / 4294967296 % 4294967296 / 4294967296 = 0 by omega]
    rfl
  unfold num_Mul.f
  simp only [hm, hm1, Option.bind_some, if_true, Bool.not_true]
  rw [num_Mul.j0, if_neg (by decide)]
  simp only [hz, hz1, hmul, Option.bind_some, if_true]
  rw [num_Mul.j1, if_neg (by simp; omega), if_neg (by simp; omega), wrap_id (by omega) (by omega)]
end Go.Proofs.YtdgifgdadminbaaDoor.PFileParses

/-! ### Dc -/
set_option linter.unusedSimpArgs false
set_option linter.unusedVariables false
set_option maxRecDepth 100000
namespace Go.Proofs.YtdgifgdadminbaaDoor
open Go.RowKit Go.Proofs.YtdgifgdadminbaaDoorW.PrintWords Sp
open PFileParses (val13 digits_f value_f power_f mul_f word_f wrap_id ba_len toList_data)

/-- What the calls need of the world's tables. -/
structure Env (w : World) : Prop where
  m : ∃ m, w.cell? ⟨2, 0, none⟩ = some (.int .i64 m)
  tab : Lib.TabIs Tryd.prog w "internal/strconv.uint64pow10" .u64 Lib.pow10Tab
theorem gPow : Tryd.prog.globalNamed "internal/strconv.uint64pow10" = some 1 := by kernel_rfl
theorem Env.size {w : World} (h : Env w) : 3 ≤ w.heap.size := by
  obtain ⟨m, hm⟩ := h.m
  rcases Nat.lt_or_ge 2 w.heap.size with g | g
  · omega
  · have e : w.cell? ⟨2, 0, none⟩ = none := by
      unfold World.cell?
      rw [Array.getElem?_eq_none (show w.heap.size ≤ 2 from g)]
    rw [e] at hm
    cases hm
theorem Env.below {B : Nat} {w w' : World} (h : Env w) (hb : Below B w w') (hB : 3 ≤ B) : Env w' := by
  refine ⟨?_, ?_⟩
  · obtain ⟨m, hm⟩ := h.m
    exact ⟨m, (hb.cell (p := ⟨2, 0, none⟩) (by show 2 < B; omega)).trans hm⟩
  · refine Eq.trans ?_ h.tab
    show World.var? Tryd.prog w' _ = World.var? Tryd.prog w _
    unfold World.var?
    rw [gPow]
    simp only [Option.bind_some, hb.block 1 (show 1 < B by omega)]
theorem Env.drew {w w' : World} (h : Env w) (hd : Drawn0 w w') : Env w' := by
  obtain ⟨n, rfl⟩ := hd.out
  exact h.below (pw_below_drewN (Below.refl w.heap.size w) n) h.size

theorem cut_free (c : UInt8) (l : List UInt8) (h : ∀ b ∈ l, b ≠ c) : Lib.cut l [c] = (l, [], false) := by
  rcases index_cases c l with ⟨h1, _⟩ | ⟨a, r, e, _, _⟩
  · rw [Lib.cut, if_neg (by omega)]
  · exact absurd rfl (h c (by rw [e]; simp))
theorem cut_hit (c : UInt8) (l : List UInt8) (h : c ∈ l) : (Lib.cut l [c]).2.2 = true := by
  rcases index_cases c l with ⟨_, h2⟩ | ⟨a, r, e, _, h3⟩
  · exact absurd rfl (h2 c h)
  · rw [Lib.cut, if_pos (by omega)]

def negOf (l : List UInt8) : Bool := l.head? == some 45
def restOf (l : List UInt8) : List UInt8 := if negOf l then l.tail else l
theorem restOf_length (l : List UInt8) : (restOf l).length ≤ l.length := by
  unfold restOf
  split
  · simp
  · exact Nat.le_refl _

theorem hasPre_eq (l : List UInt8) : Lib.hasPrefix l [45] = negOf l := by
  cases l with
  | nil => rfl
  | cons b r =>
    by_cases h : b = 45
    · subst h; rfl
    · have h1 : Lib.hasPrefix (b :: r) [45] = false := by
        show ((45 : UInt8) == b && List.isPrefixOf [] r) = false
        rw [Bool.and_eq_false_iff]
        exact .inl (beq_eq_false_iff_ne.2 (Ne.symm h))
      have h2 : negOf (b :: r) = false := by
        show ((some b : Option UInt8) == some 45) = false
        exact beq_eq_false_iff_ne.2 (fun e => h (Option.some.inj e))
      rw [h1, h2]
theorem trimPre_eq (l : List UInt8) : Lib.trimPrefix l [45] = restOf l := by
  unfold Lib.trimPrefix restOf
  rw [hasPre_eq]
  cases l <;> rfl

theorem pre_c (s : ByteArray) (w : World) :
    Calls Tryd.prog 119 #[.string s, .string ⟨#[45]⟩] w fun e w' => e = .returned (.tuple #[.string (mk (restOf s.data.toList)), .bool (negOf s.data.toList)]) ∧ w' = w := by
  refine (Tryd.strings_CutPrefix s ⟨#[45]⟩ w).mono ?_
  rintro e w' ⟨rfl, rfl⟩
  refine ⟨?_, rfl⟩
  show Ending.returned (.tuple #[.string (mk (Lib.trimPrefix s.data.toList [45])), .bool (Lib.hasPrefix s.data.toList [45])]) = _
  rw [hasPre_eq, trimPre_eq]

theorem cut_c (r : List UInt8) (w : World) (hE : Env w) (hs : r.length < 4294967281) :
    Calls Tryd.prog 120 #[.string (mk r), .string ⟨#[46]⟩] w fun e w' => ∃ a b p, e = .returned (.tuple #[.string (mk a), .string (mk b), .bool p]) ∧ (46 ∉ r → a = r ∧ b = [] ∧ p = false) ∧ (46 ∈ r → p = true) ∧ a.length ≤ r.length ∧ b.length ≤ r.length ∧ Drawn0 w w' := by
  obtain ⟨m, hm⟩ := hE.m
  refine (Tryd.strings_Cut (mk r) ⟨#[46]⟩ m w (by rw [mk_size]; exact hs) hm).mono ?_
  rintro e w' ⟨rfl, n, rfl⟩
  refine ⟨_, _, _, rfl, ?_, ?_, ?_, ?_, ⟨⟨n, rfl⟩⟩⟩
  rotate_left 2
  · rw [data_mk]
    unfold Lib.cut
    split
    · simp only [List.length_take]; omega
    · exact Nat.le_refl _
  · rw [data_mk]
    unfold Lib.cut
    split
    · simp only [List.length_drop]; omega
    · exact Nat.zero_le _
  · intro h
    rw [data_mk]
    rw [show (ByteArray.mk #[46]).data.toList = [46] from rfl, cut_free 46 r (fun b hb e => h (e ▸ hb))]
    exact ⟨rfl, rfl, rfl⟩
  · intro h
    rw [data_mk]
    exact cut_hit 46 r h

def digs (l : List UInt8) (m : Int) : Bool := l.all isD && decide (1 ≤ l.length) && decide ((l.length : Int) ≤ m)
theorem digits_c (l : List UInt8) (m : Int) (w : World) (hs : l.length < 4294967281) :
    Calls Tryd.prog 121 #[.string (mk l), .int .i64 m] w fun e w' => e = .returned (.bool (digs l m)) ∧ Drawn0 w w' := by
  obtain ⟨k, hk⟩ := digits_f (mk l) m (by rw [mk_size]; omega)
  rw [data_mk, mk_size] at hk
  exact PFileParses.deci_digits.calls k (mk l) m _ w hk
theorem value_c (l : List UInt8) (w : World) (hD : l.all isD = true) (hs : l.length ≤ 13) :
    Calls Tryd.prog 123 #[.string (mk l)] w fun e w' => e = .returned (.int .i64 (val l)) ∧ Drawn0 w w' := by
  obtain ⟨k, hk⟩ := value_f (mk l) (by rw [data_mk]; exact hD) (by rw [mk_size]; exact hs)
  rw [data_mk] at hk
  exact PFileParses.deci_value.calls k (mk l) _ w hk
theorem power_c (w : World) : Calls Tryd.prog 124 #[.int .i64 0] w fun e w' => e = .returned (.int .i64 1) ∧ Drawn0 w w' := by
  obtain ⟨k, hk⟩ := power_f
  exact PFileParses.deci_power.calls k 0 _ w hk
theorem mul_c (a : Int) (w : World) (h0 : 0 ≤ a) (h1 : a < 10000000000000) : Calls Tryd.prog 122 #[.int .i64 a, .int .i64 1] w fun e w' => e = .returned (.tuple #[.int .i64 a, .bool true]) ∧ Drawn0 w w' := by
  obtain ⟨k, hk⟩ := mul_f a h0 h1
  exact PFileParses.num_Mul.calls k a 1 _ _ w hk

theorem Drawn0.trans {a b c : World} (h : Drawn0 a b) (k : Drawn0 b c) : Drawn0 a c := by
  obtain ⟨n, rfl⟩ := h.out
  obtain ⟨m, rfl⟩ := k.out
  exact ⟨⟨n + m, by simp [World.drewN_drewN]⟩⟩

theorem digs_iff {l : List UInt8} (h : digs l 13 = true) : l.all isD = true ∧ 1 ≤ l.length ∧ l.length ≤ 13 := by
  unfold digs at h
  simp only [Bool.and_eq_true, decide_eq_true_eq] at h
  exact ⟨h.1.1, h.1.2, by omega⟩
theorem readL_eq (l : List UInt8) : readL l = if digs (restOf l) 13 then (let v : Int := if negOf l then -(val (restOf l) : Int) else val (restOf l); if v < -1099511627776 ∨ 1099511627776 < v then (0, 23) else (v, 0)) else (0, 21) := by
  unfold readL digs restOf negOf
  simp only [show ∀ n : Nat, ((n : Int) ≤ 13) = (n ≤ 13) from fun n => by simp; omega]
theorem read_bad (s : ByteArray) (h : 46 ∉ restOf s.data.toList → digs (restOf s.data.toList) 13 = false) : readS s = (0, 21) := by
  unfold readS
  rw [readL_eq]
  have : digs (restOf s.data.toList) 13 = false := by
    by_cases hm : 46 ∈ restOf s.data.toList
    · unfold digs
      rw [Bool.and_eq_false_iff, Bool.and_eq_false_iff]
      left; left
      rw [List.all_eq_false]
      exact ⟨46, hm, by decide⟩
    · exact h hm
  rw [this]
  rfl
def readAns (s : ByteArray) (w : World) (e : Ending) (w' : World) : Prop := e = .returned (.tuple #[.int .i64 (readS s).1, .int .i64 (readS s).2]) ∧ Drawn0 w w'

set_option maxHeartbeats 4000000 in
theorem read_walk (s : ByteArray) (w : World) (hE : Env w) (hs : s.size < 4294967281) :
    Calls Tryd.prog 93 #[.string s, .int .i64 0] w fun e w' => readAns s w e w' := by
  go_enter Tryd.func93, Tryd.ntmps93
  go_wp2_with fail
  refine (pre_c s _).mono ?_
  rintro e w' ⟨rfl, rfl⟩
  go_wp2_with fail
  have hl : (restOf s.data.toList).length < 4294967281 := by have := restOf_length s.data.toList; rw [ba_len] at this; omega
  refine (cut_c (restOf s.data.toList) _ hE hl).mono ?_
  rintro e w1 ⟨a, b, p, rfl, hno, hyes, hla', hlb', hd1⟩
  have hla : a.length < 4294967281 := by omega
  have hlb : b.length < 4294967281 := by omega
  clear hla' hlb'
  go_wp2_with fail
  have ha : a.length < 4294967281 := hla
  refine (digits_c a 13 _ ha).mono ?_
  rintro e w2 ⟨rfl, hd2⟩
  obtain ⟨A, hA0⟩ : ∃ A, digs a 13 = A := ⟨_, rfl⟩
  rw [hA0]
  have hA := Lib.hid hA0
  clear hA0
  have HN := Lib.hid hno
  have HY := Lib.hid hyes
  clear hno hyes
  obtain ⟨B, hB0⟩ : ∃ B, negOf s.data.toList = B := ⟨_, rfl⟩
  rw [hB0]
  have hB := Lib.hid hB0
  clear hB0
  have hbad : digs b 0 = false := by
    unfold digs
    by_cases h1 : 1 ≤ b.length
    · rw [decide_eq_false (p := (b.length : Int) ≤ 0) (by omega), Bool.and_false]
    · rw [decide_eq_false (p := 1 ≤ b.length) h1, Bool.and_false, Bool.false_and]
  have HBad := Lib.hid hbad
  clear hbad
  cases A
  · go_wp2_with fail
    go_ret2
    refine ⟨?_, Drawn0.trans hd1 hd2⟩
    rw [read_bad s (fun h => by rw [← (HN.out h).1]; exact hA.out)]
    rfl
  · cases p
    · obtain ⟨e1, e2, _⟩ : a = restOf s.data.toList ∧ b = [] ∧ false = false := by
        by_cases h : 46 ∈ restOf s.data.toList
        · exact absurd (HY.out h) (by simp)
        · exact HN.out h
      subst e2
      have hA1 := hA.out
      rw [e1] at hA1
      obtain ⟨hD, h1, h13⟩ := digs_iff hA1
      have E1 := Lib.hid e1
      clear e1
      have hDa : a.all isD = true := by rw [E1.out]; exact hD
      have h13a : a.length ≤ 13 := by rw [E1.out]; omega
      have hv := val13 hDa h13a
      go_wp2_with fail
      refine (value_c a _ hDa h13a).mono ?_
      rintro e w3 ⟨rfl, hd3⟩
      go_wp2_with fail
      refine (power_c _).mono ?_
      rintro e w4 ⟨rfl, hd4⟩
      go_wp2_with fail
      refine (mul_c _ _ (by omega) (by omega)).mono ?_
      rintro e w5 ⟨rfl, hd5⟩
      go_wp2_with fail
      refine (value_c [] _ rfl (by simp)).mono ?_
      rintro e w6 ⟨rfl, hd6⟩
      go_wp2_with fail
      rw [show wrap64 (-((mk []).size : Int)) = 0 by rw [mk_size]; exact wrap_id (by decide) (by decide)]
      refine (power_c _).mono ?_
      rintro e w7 ⟨rfl, hd7⟩
      have hd : Drawn0 w' w7 := Drawn0.trans hd1 (Drawn0.trans hd2 (Drawn0.trans hd3 (Drawn0.trans hd4 (Drawn0.trans hd5 (Drawn0.trans hd6 hd7)))))
      clear hd1 hd2 hd3 hd4 hd5 hd6 hd7
      have hv0 : ((val [] : Nat) : Int) = 0 := rfl
      have hw0 : wrap64 0 = 0 := wrap_id (by decide) (by decide)
      have hw1 : wrap64 (val a : Int) = (val a : Int) := wrap_id (by omega) (by omega)
      have hw2 : wrap64 (-(val a : Int)) = -(val a : Int) := wrap_id (by omega) (by omega)
      have hr : readS s = (let v : Int := if B then -(val a : Int) else val a; if v < -1099511627776 ∨ 1099511627776 < v then (0, 23) else (v, 0)) := by
        unfold readS
        rw [readL_eq, hA1, if_pos rfl, ← E1.out, hB.out]
      have HR := Lib.hid hr
      clear hr
      cases B
      · by_cases hbig : (1099511627776 : Int) < (val a : Int)
        · have hb1 : decide ((1099511627776 : Int) < (val a : Int)) = true := decide_eq_true hbig
          have hb2 : decide ((val a : Int) < (-1099511627776 : Int)) = false := decide_eq_false (by omega)
          go_wp2_with fail
          go_ret2
          refine ⟨?_, hd⟩
          rw [HR.out]
          simp [hbig]
        · have hb1 : decide ((1099511627776 : Int) < (val a : Int)) = false := decide_eq_false hbig
          have hb2 : decide ((val a : Int) < (-1099511627776 : Int)) = false := decide_eq_false (by omega)
          have hb3 : ¬ ((val a : Int) < (-1099511627776 : Int)) := by omega
          go_wp2_with fail
          go_ret2
          refine ⟨?_, hd⟩
          rw [show readS s = ((val a : Int), 0) from HR.out.trans (if_neg (by show ¬ ((val a : Int) < -1099511627776 ∨ 1099511627776 < (val a : Int)); omega))]
          rfl
      · by_cases hbig : (-(val a : Int)) < (-1099511627776 : Int)
        · have hb1 : decide ((-(val a : Int)) < (-1099511627776 : Int)) = true := decide_eq_true hbig
          go_wp2_with fail
          go_ret2
          refine ⟨?_, hd⟩
          rw [HR.out]
          simp [hbig]
        · have hb1 : decide ((-(val a : Int)) < (-1099511627776 : Int)) = false := decide_eq_false hbig
          have hb2 : decide ((1099511627776 : Int) < (-(val a : Int))) = false := decide_eq_false (by omega)
          have hb3 : ¬ ((1099511627776 : Int) < (-(val a : Int))) := by omega
          go_wp2_with fail
          go_ret2
          refine ⟨?_, hd⟩
          rw [show readS s = (-(val a : Int), 0) from HR.out.trans (if_neg (by show ¬ (-(val a : Int) < -1099511627776 ∨ 1099511627776 < -(val a : Int)); omega))]
          rfl
    · go_wp2_with fail
      refine (digits_c b 0 _ hlb).mono ?_
      rintro e w3 ⟨rfl, hd3⟩
      rw [HBad.out]
      go_wp2_with fail
      go_ret2
      refine ⟨?_, Drawn0.trans hd1 (Drawn0.trans hd2 hd3)⟩
      rw [read_bad s (fun h => absurd (HN.out h).2.2 (by simp))]
      rfl
end Go.Proofs.YtdgifgdadminbaaDoor
