/- Several texts of this session in one (Zs, Zt, Zu, Zv, Zw, Zx, Zm). Written by this session, by tools of this session and by the kit's print. -/
import Derived.Test.YtdgifgdadminbaaDoorPFileParsesx6
import Derived.Test.YtdgifgdadminbaaDoorPFileParsesx7
import Derived.Test.YtdgifgdadminbaaDoorX2
import Derived.Test.YtdgifgdadminbaaDoorD1
import Derived.Test.YtdgifgdadminbaaDoorPFileParsesx4
import Derived.Test.YtdgifgdadminbaaDoorRp
import Derived.Test.YtdgifgdadminbaaDoorSq
/-! ### Zs -/
set_option linter.unusedSimpArgs false
set_option linter.unusedVariables false
namespace Go.Proofs.YtdgifgdadminbaaDoor
open Go.RowKit Go.Proofs.YtdgifgdadminbaaDoorW.PrintWords Sp
open PFileParses (wrap_id ba_len toList_data info3 info2 info9 rd_L1 rd_L2 at_L1 at_L2)

theorem wrap64_nat (n : Nat) (h : n < 9223372036854775807) : wrap64 ((n : Int) + 1) = ((n + 1 : Nat) : Int) := by
  unfold wrap64
  omega
theorem sameInts_self (xs : List Int) (hs : xs.length < 9223372036854775807) : ∀ (d i k : Nat), xs.length - i = d → d < k → PFileParses.jitneyref01_SameInts.l0 k xs xs (i : Int) = some true
  | 0, i, k + 1, hd, hk => by
    rw [PFileParses.jitneyref01_SameInts.l0, if_neg (by omega)]
  | d + 1, i, k + 1, hd, hk => by
    rw [PFileParses.jitneyref01_SameInts.l0, if_pos (by omega), if_pos (by omega), if_pos (by omega), if_pos rfl, wrap64_nat i (by omega)]
    exact sameInts_self xs hs d (i + 1) k (by omega) (by omega)
theorem sameLongs_self (xs : List Int) (hs : xs.length < 9223372036854775807) : ∀ (d i k : Nat), xs.length - i = d → d < k → PFileParses.jitneyref01_SameLongs.l0 k xs xs (i : Int) = some true
  | 0, i, k + 1, hd, hk => by
    rw [PFileParses.jitneyref01_SameLongs.l0, if_neg (by omega)]
  | d + 1, i, k + 1, hd, hk => by
    rw [PFileParses.jitneyref01_SameLongs.l0, if_pos (by omega), if_pos (by omega), if_pos (by omega), if_pos rfl, wrap64_nat i (by omega)]
    exact sameLongs_self xs hs d (i + 1) k (by omega) (by omega)
theorem sameRows_self (xs : List (List Int)) (hs : xs.length < 9223372036854775807) (N : Nat) (hN : N < 9223372036854775807) (hr : ∀ r ∈ xs, r.length ≤ N) : ∀ (d i k : Nat), xs.length - i = d → d + N < k → PFileParses.jitneyref01_SameRows.l0 k xs xs (i : Int) = some true
  | 0, i, k + 1, hd, hk => by
    rw [PFileParses.jitneyref01_SameRows.l0, if_neg (by omega)]
  | d + 1, i, k + 1, hd, hk => by
    rw [PFileParses.jitneyref01_SameRows.l0, if_pos (by omega), if_pos (by omega), if_pos (by omega)]
    have hi : i < xs.length := by omega
    have hm := hr _ (List.getElem_mem hi)
    have h1 : PFileParses.jitneyref01_SameInts.f k (rd_L1 xs (i : Int)) (rd_L1 xs (i : Int)) = some true := by
      rw [rd_L1_at xs i hi]
      unfold PFileParses.jitneyref01_SameInts.f
      rw [if_pos rfl]
      exact sameInts_self _ (by omega) _ 0 k rfl (by omega)
    rw [h1, wrap64_nat i (by omega)]
    exact sameRows_self xs hs N hN hr d (i + 1) k (by omega) (by omega)
theorem sameTims_self (p : Pl) (hs : p.times.length < 9223372036854775807) (N : Nat) (hN : N < 9223372036854775807) (hr : ∀ r ∈ p.times, r.length ≤ N) : ∀ (d i k : Nat), p.times.length - i = d → d + N < k → PFileParses.jitneyref22_Same.l0 k (i : Int) p.routes p.times p.left p.cost p.routes p.times p.left p.cost = some true
  | 0, i, k + 1, hd, hk => by
    rw [PFileParses.jitneyref22_Same.l0, if_neg (by omega)]
  | d + 1, i, k + 1, hd, hk => by
    rw [PFileParses.jitneyref22_Same.l0, if_pos (by omega), if_pos (by omega), if_pos (by omega)]
    have hi : i < p.times.length := by omega
    have hm := hr _ (List.getElem_mem hi)
    have h1 : PFileParses.jitneyref01_SameLongs.f k (rd_L2 p.times (i : Int)) (rd_L2 p.times (i : Int)) = some true := by
      rw [rd_L2_at p.times i hi]
      unfold PFileParses.jitneyref01_SameLongs.f
      rw [if_pos rfl]
      exact sameLongs_self _ (by omega) _ 0 k rfl (by omega)
    rw [h1, wrap64_nat i (by omega)]
    exact sameTims_self p hs N hN hr d (i + 1) k (by omega) (by omega)
theorem same_self (p : Pl) (N : Nat) (hN : N < 4611686018427387904) (h1 : p.routes.length ≤ N) (h2 : p.times.length ≤ N) (h3 : p.left.length ≤ N) (r1 : ∀ r ∈ p.routes, r.length ≤ N) (r2 : ∀ r ∈ p.times, r.length ≤ N) :
    ∃ k, PFileParses.jitneyref22_Same.f k p.routes p.times p.left p.cost p.routes p.times p.left p.cost = some true := by
  refine ⟨2 * N + 3, ?_⟩
  have e1 : PFileParses.jitneyref01_SameRows.f (2 * N + 3) p.routes p.routes = some true := by
    unfold PFileParses.jitneyref01_SameRows.f
    rw [if_pos rfl]
    exact sameRows_self _ (by omega) N (by omega) r1 _ 0 _ rfl (by omega)
  have e2 : PFileParses.jitneyref01_SameInts.f (2 * N + 3) p.left p.left = some true := by
    unfold PFileParses.jitneyref01_SameInts.f
    rw [if_pos rfl]
    exact sameInts_self _ (by omega) _ 0 _ rfl (by omega)
  have e3 : (p.cost != p.cost) = false := by simp
  unfold PFileParses.jitneyref22_Same.f
  rw [e1, Option.bind_some, if_pos rfl, if_pos rfl, e2, Option.bind_some, if_pos rfl, e3, PFileParses.jitneyref22_Same.j0, if_neg (by decide)]
  exact sameTims_self p (by omega) N (by omega) r2 _ 0 _ rfl (by omega)
end Go.Proofs.YtdgifgdadminbaaDoor

/-! ### Zt -/
set_option linter.unusedSimpArgs false
set_option linter.unusedVariables false
namespace Go.Proofs.YtdgifgdadminbaaDoor
open Go.RowKit Go.Proofs.YtdgifgdadminbaaDoorW.PrintWords Sp
open PFileParses (wrap_id ba_len toList_data bt_nat)

def fin0 (neg : Bool) (v : Nat) : Int × Int := if (if neg then -(v : Int) else v) < -1099511627776 ∨ 1099511627776 < (if neg then -(v : Int) else v) then (0, 23) else ((if neg then -(v : Int) else v), 0)
theorem read_l1 (k : Nat) (neg : Bool) (V : Nat) (h : V < 10000000000000) : PFileParses.jitneyref03_Read.l1 (k + 1) 0 neg (V : Int) false 0 = some (fin0 neg V) := by
  rw [PFileParses.jitneyref03_Read.l1, if_neg (by omega)]
  unfold fin0
  cases neg
  · rw [if_neg (by decide), if_neg (by decide)]
    simp only [Bool.false_eq_true, if_false]
    by_cases h1 : 1099511627776 < (V : Int)
    · rw [if_neg (by omega), if_pos (by omega), if_pos (by omega)]
    · rw [if_neg (by omega), if_neg (by omega), if_neg (by omega)]
  · rw [if_pos rfl, if_neg (by decide), wrap_id (by omega) (by omega)]
    simp only [if_true]
    by_cases h1 : 1099511627776 < (V : Int)
    · rw [if_pos (by omega), if_pos (by omega)]
    · rw [if_neg (by omega), if_neg (by omega), if_neg (by omega)]
theorem read_j6 (k : Nat) (a b c d e) : PFileParses.jitneyref03_Read.j6 (k + 1) a b c d e true = some (0, 21) := by
  rw [PFileParses.jitneyref03_Read.j6, if_pos rfl]
theorem read_j5 (k : Nat) (x0 a b c d e f g h) : PFileParses.jitneyref03_Read.j5 (k + 1) x0 a b c d e f g h true = some (0, 21) := by
  rw [PFileParses.jitneyref03_Read.j5, if_pos rfl]
theorem read_pt (s : ByteArray) (hs : s.size < 4611686018427387904) (neg : Bool) : ∀ (d i k : Nat) (v : Int) (fl : Bool) (c : Int) (p : Nat), s.size - i = d → 3 * d + 5 < k → i ≤ s.size → p + d < 4611686018427387904 →
    PFileParses.jitneyref03_Read.l0 k s 0 (i : Int) neg v fl c (p : Int) = some (0, 21)
  | 0, i, k, v, fl, c, p, hd, hk, hi, hp => by
    obtain ⟨k, rfl⟩ : ∃ q, k = q + 1 + 1 := ⟨k - 2, by omega⟩
    rw [PFileParses.jitneyref03_Read.l0, if_neg (by omega)]
    by_cases h1 : c < 1
    · rw [if_pos h1]; exact read_j6 _ _ _ _ _ _
    · rw [if_neg h1]
      by_cases h2 : c > 13
      · rw [if_pos h2]; exact read_j6 _ _ _ _ _ _
      · rw [if_neg h2]
        by_cases h3 : (p : Int) = 0
        · rw [if_pos h3]; exact read_j6 _ _ _ _ _ _
        · rw [if_neg h3, decide_eq_true (by omega)]; exact read_j6 _ _ _ _ _ _
  | d + 1, i, k, v, fl, c, p, hd, hk, hi, hp => by
    obtain ⟨k, rfl⟩ : ∃ q, k = q + 1 + 1 + 1 := ⟨k - 3, by omega⟩
    rw [PFileParses.jitneyref03_Read.l0, if_pos (by omega), if_pos (by omega), decide_eq_false (show ¬ (p : Int) < 0 by omega), ite_self, PFileParses.jitneyref03_Read.j4, if_neg (by decide), wrap_id (x := (i : Int) + 1) (by omega) (by omega)]
    by_cases h1 : bt s (i : Int) < 48
    · rw [if_pos h1]; exact read_j5 _ _ _ _ _ _ _ _ _ _
    · rw [if_neg h1]
      by_cases h2 : bt s (i : Int) > 57
      · rw [decide_eq_true h2]; exact read_j5 _ _ _ _ _ _ _ _ _ _
      · rw [decide_eq_false h2, PFileParses.jitneyref03_Read.j5, if_neg (by decide), if_pos (by omega), wrap_id (x := (p : Int) + 1) (by omega) (by omega), show ((p : Int) + 1) = ((p + 1 : Nat) : Int) by omega, show ((i : Int) + 1) = ((i + 1 : Nat) : Int) by omega,
          read_pt s hs neg d (i + 1) k _ _ _ (p + 1) (by omega) (by omega) (by omega) (by omega), read_pt s hs neg d (i + 1) k _ _ _ (p + 1) (by omega) (by omega) (by omega) (by omega), ite_self]
def stepD (n : Nat) (b : UInt8) : Nat := n * 10 + (b.toNat - 48)
theorem read_dg (s : ByteArray) (hs : s.size < 4611686018427387904) (neg : Bool) : ∀ (d i k : Nat) (v : Int) (fl : Bool) (c V : Nat), s.size - i = d → 3 * d + 8 < k → i ≤ s.size → c + d < 4611686018427387904 → (c ≤ 13 → v = (V : Int) ∧ V < 10 ^ c ∧ fl = false) →
    PFileParses.jitneyref03_Read.l0 k s 0 (i : Int) neg v fl (c : Int) (-1) = some (if (s.data.toList.drop i).all isD && decide (1 ≤ c + d) && decide (c + d ≤ 13) then fin0 neg ((s.data.toList.drop i).foldl stepD V) else (0, 21))
  | 0, i, k, v, fl, c, V, hd, hk, hi, hp, hv => by
    obtain ⟨k, rfl⟩ : ∃ q, k = q + 1 + 1 + 1 + 1 := ⟨k - 4, by omega⟩
    rw [PFileParses.jitneyref03_Read.l0, if_neg (by omega), List.drop_eq_nil_of_le (by rw [ba_len]; omega)]
    simp only [List.all_nil, List.foldl_nil, Bool.true_and, Nat.add_zero]
    by_cases h1 : (c : Int) < 1
    · rw [if_pos h1, read_j6, decide_eq_false (show ¬ 1 ≤ c by omega)]; rfl
    · rw [if_neg h1]
      by_cases h2 : (c : Int) > 13
      · rw [if_pos h2, read_j6, decide_eq_false (show ¬ c ≤ 13 by omega), Bool.and_false]; rfl
      · obtain ⟨rfl, hV, rfl⟩ := hv (by omega)
        have hpow : 10 ^ c ≤ 10 ^ 13 := Nat.pow_le_pow_right (by omega) (by omega)
        rw [if_neg h2, if_neg (by decide), decide_eq_false (show ¬ ((-1 : Int) > 0) by decide), PFileParses.jitneyref03_Read.j6, if_neg (by decide), if_pos (by decide), PFileParses.jitneyref03_Read.j7,
          read_l1 k neg V (by omega), decide_eq_true (show 1 ≤ c by omega), decide_eq_true (show c ≤ 13 by omega)]
        rfl
  | d + 1, i, k, v, fl, c, V, hd, hk, hi, hp, hv => by
    obtain ⟨k, rfl⟩ : ∃ q, k = q + 1 + 1 + 1 := ⟨k - 3, by omega⟩
    have hl : i < s.data.toList.length := by rw [ba_len]; omega
    have hb := bt_nat s i hl
    rw [PFileParses.jitneyref03_Read.l0, if_pos (by omega), if_pos (by omega), List.drop_eq_getElem_cons hl, List.all_cons, List.foldl_cons, wrap_id (x := (i : Int) + 1) (by omega) (by omega), hb, show ((i : Int) + 1) = ((i + 1 : Nat) : Int) by omega]
    obtain ⟨b, hbb⟩ : ∃ b, b = s.data.toList[i]'hl := ⟨_, rfl⟩
    rw [← hbb]
    have hbl := b.toNat_lt
    by_cases h46 : ((b.toNat : Int)) = 46
    · have hD : isD b = false := by simp only [isD, Bool.and_eq_false_iff, decide_eq_false_iff_not]; omega
      rw [if_pos h46, decide_eq_true (show (-1 : Int) < 0 by decide), PFileParses.jitneyref03_Read.j4, if_pos rfl, hD, Bool.false_and, Bool.false_and, Bool.false_and, if_neg (by decide)]
      exact read_pt s hs neg d (i + 1) _ _ _ _ 0 (by omega) (by omega) (by omega) (by omega)
    · rw [if_neg h46, PFileParses.jitneyref03_Read.j4, if_neg (by decide)]
      by_cases h1 : (b.toNat : Int) < 48
      · have hD : isD b = false := by simp only [isD, Bool.and_eq_false_iff, decide_eq_false_iff_not]; omega
        rw [if_pos h1, read_j5, hD, Bool.false_and, Bool.false_and, Bool.false_and, if_neg (by decide)]
      · rw [if_neg h1]
        by_cases h2 : (b.toNat : Int) > 57
        · have hD : isD b = false := by simp only [isD, Bool.and_eq_false_iff, decide_eq_false_iff_not]; omega
          rw [decide_eq_true h2, read_j5, hD, Bool.false_and, Bool.false_and, Bool.false_and, if_neg (by decide)]
        · have hD : isD b = true := by simp only [isD, Bool.and_eq_true, decide_eq_true_eq]; omega
          rw [decide_eq_false h2, PFileParses.jitneyref03_Read.j5, if_neg (by decide), if_neg (by decide), hD, Bool.true_and, wrap_id (x := (c : Int) + 1) (by omega) (by omega), show ((c : Int) + 1) = ((c + 1 : Nat) : Int) by omega,
            show c + (d + 1) = (c + 1) + d by omega]
          by_cases hc : c + 1 ≤ 13
          · obtain ⟨rfl, hV, rfl⟩ := hv (by omega)
            have hpow : 10 ^ c ≤ 10 ^ 12 := Nat.pow_le_pow_right (by omega) (by omega)
            have hpow2 : 10 ^ (c + 1) = 10 * 10 ^ c := by rw [Nat.pow_succ, Nat.mul_comm]
            have e1 : wrap64 (wrap64 (10 * (V : Int)) + ((b.toNat : Int) - 48) % 256) = ((stepD V b : Nat) : Int) := by
              rw [wrap_id (x := 10 * (V : Int)) (by omega) (by omega), wrap_id (by omega) (by omega)]
              unfold stepD
              omega
            have hst : stepD V b < 10 ^ (c + 1) := by unfold stepD; omega
            rw [e1, if_neg (by omega)]
            exact read_dg s hs neg d (i + 1) k _ _ (c + 1) _ (by omega) (by omega) (by omega) (by omega) (fun _ => ⟨rfl, hst, rfl⟩)
          · rw [read_dg s hs neg d (i + 1) k _ _ (c + 1) (stepD V b) (by omega) (by omega) (by omega) (by omega) (fun h => absurd h hc),
              read_dg s hs neg d (i + 1) k _ _ (c + 1) (stepD V b) (by omega) (by omega) (by omega) (by omega) (fun h => absurd h hc), ite_self]
theorem readR_f (s : ByteArray) (hs : s.size < 4611686018427387904) (k : Nat) (hk : 3 * s.size + 20 < k) : PFileParses.jitneyref03_Read.f k s 0 = some (readS s) := by
  obtain ⟨k, rfl⟩ : ∃ q, k = q + 1 + 1 + 1 := ⟨k - 3, by omega⟩
  unfold PFileParses.jitneyref03_Read.f readS
  rw [if_neg (by decide), decide_eq_false (by decide), PFileParses.jitneyref03_Read.j0, if_neg (by decide), readL_eq]
  have hval : ∀ l, val l = l.foldl stepD 0 := fun l => rfl
  cases hl : s.data.toList with
  | nil =>
    have hz : s.size = 0 := by rw [← ba_len, hl]; rfl
    rw [if_neg (by omega), PFileParses.jitneyref03_Read.j1, if_neg (by decide), PFileParses.jitneyref03_Read.j2]
    have := read_dg s hs false 0 0 k 0 false 0 0 (by omega) (by omega) (by omega) (by omega) (fun _ => ⟨rfl, by decide, rfl⟩)
    rw [hl] at this
    exact this
  | cons b r =>
    have hz : s.size = r.length + 1 := by rw [← ba_len, hl]; rfl
    have hb := bt_nat s 0 (by rw [hl]; simp)
    have hb2 : (bt s 0 == 45) = (b == 45) := by
      rw [show bt s 0 = (b.toNat : Int) by rw [show (0 : Int) = ((0 : Nat) : Int) from rfl, hb]; simp [hl]]
      by_cases e : b = 45
      · subst e; rfl
      · have : b.toNat ≠ 45 := fun h => e (UInt8.toNat_inj.1 h)
        rw [beq_eq_false_iff_ne.2 e, beq_eq_false_iff_ne.2 (by omega)]
    have hneg : negOf (b :: r) = (b == 45) := by simp [negOf]
    rw [if_pos (by omega), if_pos (by omega), hb2, PFileParses.jitneyref03_Read.j1]
    unfold restOf digs
    rw [hneg]
    cases hh : (b == 45)
    · rw [if_neg (by decide), PFileParses.jitneyref03_Read.j2]
      have := read_dg s hs false s.size 0 k 0 false 0 0 (by omega) (by omega) (by omega) (by omega) (fun _ => ⟨rfl, by decide, rfl⟩)
      refine this.trans ?_
      rw [hl, hval, hz]
      simp only [List.drop_zero, Bool.false_eq_true, if_false, List.length_cons, Nat.zero_add]
      have e2 : decide (((r.length + 1 : Nat) : Int) ≤ 13) = decide (r.length + 1 ≤ 13) := by
        by_cases h : r.length + 1 ≤ 13
        · rw [decide_eq_true h, decide_eq_true (by omega)]
        · rw [decide_eq_false h, decide_eq_false (by omega)]
      rw [e2]
      rfl
    · rw [if_pos rfl, PFileParses.jitneyref03_Read.j2]
      have := read_dg s hs true r.length 1 k 0 false 0 0 (by omega) (by omega) (by omega) (by omega) (fun _ => ⟨rfl, by decide, rfl⟩)
      refine this.trans ?_
      rw [hl, hval]
      simp only [List.drop_succ_cons, List.drop_zero, if_true, List.tail_cons, Nat.zero_add]
      have e2 : decide (((r.length : Nat) : Int) ≤ 13) = decide (r.length ≤ 13) := by
        by_cases h : r.length ≤ 13
        · rw [decide_eq_true h, decide_eq_true (by omega)]
        · rw [decide_eq_false h, decide_eq_false (by omega)]
      rw [e2]
      rfl
end Go.Proofs.YtdgifgdadminbaaDoor

/-! ### Zu -/
set_option linter.unusedSimpArgs false
set_option linter.unusedVariables false
namespace Go.Proofs.YtdgifgdadminbaaDoor
open Go.RowKit Go.Proofs.YtdgifgdadminbaaDoorW.PrintWords Sp
open PFileParses (wrap_id ba_len toList_data bt_nat)

theorem wholeR_f (s : ByteArray) (hs : s.size < 4611686018427387904) (k : Nat) (hk : 3 * s.size + 20 < k) : PFileParses.jitneyref03_Whole.f k s = some (wholeS s) := by
  unfold PFileParses.jitneyref03_Whole.f wholeS wholeL
  rw [readR_f s hs k hk]
  rw [toList_data]
  cases hl : s.data.toList with
  | nil =>
    rw [if_pos rfl, if_neg (by simp)]
    rfl
  | cons b r =>
    have hz : s.size = r.length + 1 := by rw [← ba_len, hl]; rfl
    have hb := bt_nat s 0 (by rw [hl]; simp)
    have hb0 : bt s 0 = (b.toNat : Int) := by rw [show (0 : Int) = ((0 : Nat) : Int) from rfl, hb]; simp [hl]
    have hrs : readS s = readL (b :: r) := by unfold readS; rw [hl]
    rw [if_neg (by simp), if_pos (by omega), hb0, hrs]
    simp only [Option.bind_some, List.head?_cons, Option.some.injEq, List.length_cons]
    have q : ∀ n : Nat, n < 256 → ((b.toNat : Int) = (n : Int) ↔ b = UInt8.ofNat n) := by
      intro n hn
      constructor
      · intro h
        refine UInt8.toNat_inj.1 ?_
        rw [show (UInt8.ofNat n).toNat = n by simp; omega]
        omega
      · intro h
        rw [h, show (UInt8.ofNat n).toNat = n by simp; omega]
    have q45 : (b.toNat : Int) = 45 ↔ b = 45 := q 45 (by omega)
    have q48 : (b.toNat : Int) = 48 ↔ b = 48 := q 48 (by omega)
    by_cases h1 : b = 45
    · rw [if_pos (q45.2 h1), if_pos (.inr h1)]
    · rw [if_neg (fun h => h1 (q45.1 h))]
      by_cases h2 : (s.size : Int) > 1
      · rw [if_pos h2]
        by_cases h3 : b = 48
        · rw [if_pos (q48.2 h3), if_pos (.inl ⟨by omega, h3⟩)]
        · rw [if_neg (fun h => h3 (q48.1 h)), if_neg (by rintro (⟨_, h⟩ | h); exact h3 h; exact h1 h)]
      · rw [if_neg h2, if_neg (by rintro (⟨h, _⟩ | h); omega; exact h1 h)]
def ans {α : Type} (r : Except Int (List α)) : List α × Int := match r with
  | .error e => ([], e)
  | .ok ns => (ns, 0)
theorem rdOf_at {α : Type} (d : α) (xs : List α) (i : Nat) (h : i < xs.length) : rdOf d xs (i : Int) = xs[i]'h := by
  unfold rdOf
  rw [Int.toNat_natCast, List.getD_eq_getElem?_getD, List.getElem?_eq_getElem h]
  rfl
theorem wholes_l (ws : List ByteArray) (N : Nat) (hN : N < 4611686018427387904) (hs : ∀ x ∈ ws, x.size ≤ N) (hl : ws.length < 17592186044416) : ∀ (d i k : Nat), ws.length - i = d → d + 3 * N + 30 < k → i ≤ ws.length → (∀ x ∈ ws.take i, (wholeS x).2 = 0) →
    PFileParses.jitneyref23_wholes.l0 k ws ((ws.take i).map fun x => (wholeS x).1) (i : Int) = some (ans (readAll wholeS ws))
  | 0, i, k + 1, hd, hk, hi, hok => by
    have e : i = ws.length := by omega
    subst e
    rw [List.take_length] at hok ⊢
    rw [PFileParses.jitneyref23_wholes.l0, if_neg (by omega), readAll_ok hok]
    rfl
  | d + 1, i, k + 1, hd, hk, hi, hok => by
    have hlt : i < ws.length := by omega
    have hsz := hs _ (List.getElem_mem hlt)
    rw [PFileParses.jitneyref23_wholes.l0, if_pos (by omega), if_pos (by omega), rdOf_at _ ws i hlt, wholeR_f _ (by omega) k (by omega)]
    simp only [Option.bind_some]
    by_cases h0 : (wholeS (ws[i]'hlt)).2 = 0
    · rw [if_pos h0, if_pos (by rw [List.length_map, List.length_take]; omega), wrap_id (by omega) (by omega), show ((i : Int) + 1) = ((i + 1 : Nat) : Int) by omega]
      have e : (ws.take i).map (fun x => (wholeS x).1) ++ [(wholeS (ws[i]'hlt)).1] = (ws.take (i + 1)).map (fun x => (wholeS x).1) := by rw [List.take_succ_eq_append_getElem hlt, List.map_append]; rfl
      rw [e]
      refine wholes_l ws N hN hs hl d (i + 1) k (by omega) (by omega) (by omega) ?_
      intro x hx
      rw [List.take_succ_eq_append_getElem hlt] at hx
      rcases List.mem_append.1 hx with h | h
      · exact hok x h
      · rw [List.mem_singleton.1 h]; exact h0
    · rw [if_neg h0, readAll_bad hlt hok h0]
      rfl
theorem wholes_f (ws : List ByteArray) (N : Nat) (hN : N < 4611686018427387904) (hs : ∀ x ∈ ws, x.size ≤ N) (hl : ws.length < 17592186044416) : ∃ k, PFileParses.jitneyref23_wholes.f k ws = some (ans (readAll wholeS ws)) :=
  ⟨ws.length + 3 * N + 31, wholes_l ws N hN hs hl _ 0 _ rfl (by omega) (by omega) (fun x hx => by simp at hx)⟩
theorem longS_two (x : ByteArray) : (readS x).2 ≠ 0 → longS x = readS x := fun h => by unfold longS; rw [if_neg (fun g => h g.1)]
theorem longs_l (ws : List ByteArray) (N : Nat) (hN : N < 4611686018427387904) (hs : ∀ x ∈ ws, x.size ≤ N) (hl : ws.length < 17592186044416) : ∀ (d i k : Nat), ws.length - i = d → d + 3 * N + 30 < k → i ≤ ws.length → (∀ x ∈ ws.take i, (longS x).2 = 0) →
    PFileParses.jitneyref23_longs.l0 k ws ((ws.take i).map fun x => (longS x).1) (i : Int) = some (ans (readAll longS ws))
  | 0, i, k + 1, hd, hk, hi, hok => by
    have e : i = ws.length := by omega
    subst e
    rw [List.take_length] at hok ⊢
    rw [PFileParses.jitneyref23_longs.l0, if_neg (by omega), readAll_ok hok]
    rfl
  | d + 1, i, k + 1, hd, hk, hi, hok => by
    have hlt : i < ws.length := by omega
    have hsz := hs _ (List.getElem_mem hlt)
    rw [PFileParses.jitneyref23_longs.l0, if_pos (by omega), if_pos (by omega), rdOf_at _ ws i hlt, readR_f _ (by omega) k (by omega)]
    simp only [Option.bind_some]
    by_cases h0 : (readS (ws[i]'hlt)).2 = 0
    · by_cases h1 : (readS (ws[i]'hlt)).1 < 0
      · have e : longS (ws[i]'hlt) = ((readS (ws[i]'hlt)).1, 23) := by unfold longS; rw [if_pos ⟨h0, h1⟩]
        rw [if_pos h0, if_pos h1, readAll_bad hlt hok (by rw [e]; show (23 : Int) ≠ 0; decide), e]
        rfl
      · have e0 : longS (ws[i]'hlt) = readS (ws[i]'hlt) := by unfold longS; rw [if_neg (fun g => h1 g.2)]
        rw [if_pos h0, if_neg h1, if_pos (by rw [List.length_map, List.length_take]; omega), wrap_id (by omega) (by omega), show ((i : Int) + 1) = ((i + 1 : Nat) : Int) by omega]
        have e : (ws.take i).map (fun x => (longS x).1) ++ [(readS (ws[i]'hlt)).1] = (ws.take (i + 1)).map (fun x => (longS x).1) := by rw [List.take_succ_eq_append_getElem hlt, List.map_append, ← e0]; rfl
        rw [e]
        refine longs_l ws N hN hs hl d (i + 1) k (by omega) (by omega) (by omega) ?_
        intro x hx
        rw [List.take_succ_eq_append_getElem hlt] at hx
        rcases List.mem_append.1 hx with h | h
        · exact hok x h
        · rw [List.mem_singleton.1 h, e0]; exact h0
    · have e0 := longS_two _ h0
      rw [if_neg h0, readAll_bad hlt hok (by rw [e0]; exact h0), e0]
      rfl
theorem longs_f (ws : List ByteArray) (N : Nat) (hN : N < 4611686018427387904) (hs : ∀ x ∈ ws, x.size ≤ N) (hl : ws.length < 17592186044416) : ∃ k, PFileParses.jitneyref23_longs.f k ws = some (ans (readAll longS ws)) :=
  ⟨ws.length + 3 * N + 31, longs_l ws N hN hs hl _ 0 _ rfl (by omega) (by omega) (fun x hx => by simp at hx)⟩
end Go.Proofs.YtdgifgdadminbaaDoor

/-! ### Zv -/
set_option linter.unusedSimpArgs false
set_option linter.unusedVariables false
namespace Go.Proofs.YtdgifgdadminbaaDoor
open Go.RowKit Go.Proofs.YtdgifgdadminbaaDoorW.PrintWords Sp
open PFileParses (wrap_id ba_len toList_data bt_nat)

theorem extract_mk (s : ByteArray) (st i : Nat) (w : List UInt8) (hw : s.data.toList.drop st = w ++ s.data.toList.drop i) (hl : w.length = i - st) : s.extract st i = mk w := by
  have : (s.extract st i).data.toList = w := by
    rw [ByteArray.data_extract, Array.toList_extract, List.extract_eq_take_drop, hw, ← hl, List.take_left']
    rfl
  rw [← this, mk_data]
theorem cutAt_mem (c b : UInt8) (hb : b ≠ c) : ∀ l : List UInt8, b ∈ l → ∃ x ∈ cutAt c l, b ∈ x
  | [], h => by simp at h
  | a :: r, h => by
    rw [cutAt]
    by_cases hc : a = c
    · rw [if_pos hc]
      have hr : b ∈ r := by
        rcases List.mem_cons.1 h with e | e
        · exact absurd (e.trans hc) hb
        · exact e
      obtain ⟨x, hx, hbx⟩ := cutAt_mem c b hb r hr
      exact ⟨x, List.mem_cons_of_mem _ hx, hbx⟩
    · rw [if_neg hc]
      cases hcut : cutAt c r with
      | nil => exact absurd hcut (cutAt_ne c r)
      | cons y ys =>
        rcases List.mem_cons.1 h with e | e
        · exact ⟨a :: y, by simp, by simp [e]⟩
        · obtain ⟨x, hx, hbx⟩ := cutAt_mem c b hb r e
          rw [hcut] at hx
          rcases List.mem_cons.1 hx with rfl | hx
          · exact ⟨a :: x, by simp, by simp [hbx]⟩
          · exact ⟨x, by simp [hx], hbx⟩
theorem isW_iff (b : UInt8) : isW b = true ↔ 33 ≤ b.toNat ∧ b.toNat ≤ 126 := by simp [isW]
def allW (l : List UInt8) : Bool := ((cutAt 32 l).map mk).all wordB
def wd (acc : List ByteArray) (l : List UInt8) : List ByteArray × Int := if allW l then (acc ++ (cutAt 32 l).map mk, 0) else ([], 21)
theorem words_l (s : ByteArray) (hs : s.size < 8796093022208) : ∀ (d st i k : Nat) (acc : List ByteArray) (w : List UInt8), s.size - i = d → 3 * d + 9 < k → st ≤ i → i ≤ s.size → acc.length ≤ st → s.data.toList.drop st = w ++ s.data.toList.drop i → w.length = i - st → (∀ b ∈ w, isW b = true) →
    PFileParses.jitneyref03_Words.l0 k s acc (st : Int) (i : Int) = some (wd acc (s.data.toList.drop st))
  | 0, st, i, k, acc, w, hd, hk, hst, hi, hac, hw, hwl, hww => by
    obtain ⟨k, rfl⟩ : ∃ q, k = q + 1 + 1 + 1 := ⟨k - 3, by omega⟩
    have e : i = s.size := by omega
    rw [PFileParses.jitneyref03_Words.l0, if_pos (by omega), if_neg (by omega), PFileParses.jitneyref03_Words.j1, if_neg (by decide)]
    have hw0 := hw
    rw [List.drop_eq_nil_of_le (show s.data.toList.length ≤ i by rw [ba_len]; omega), List.append_nil] at hw
    have hf : cutAt 32 w = [w] := cutAt_free 32 w (fun b hb => isW_32 (hww b hb))
    by_cases h1 : (i : Int) = (st : Int)
    · have hw2 : w = [] := List.eq_nil_of_length_eq_zero (by omega)
      rw [if_pos h1, hw, hw2]
      rfl
    · rw [if_neg h1, if_pos (by omega), if_pos (by omega), if_pos (by omega), if_pos (by omega), wrap_id (by omega) (by omega), PFileParses.jitneyref03_Words.l0, if_neg (by omega), Int.toNat_natCast, Int.toNat_natCast, extract_mk s st i w hw0 hwl, hw]
      have hall : allW w = true := by
        unfold allW
        rw [hf]
        simp only [List.map_cons, List.map_nil, List.all_cons, List.all_nil, Bool.and_true]
        exact Wd.wordB ⟨fun e => by rw [e] at hwl; simp at hwl; omega, hww⟩
      unfold wd
      rw [hall, if_pos rfl, hf]
      rfl
  | d + 1, st, i, k, acc, w, hd, hk, hst, hi, hac, hw, hwl, hww => by
    obtain ⟨k, rfl⟩ : ∃ q, k = q + 1 + 1 + 1 := ⟨k - 3, by omega⟩
    have hl : i < s.data.toList.length := by rw [ba_len]; omega
    have hb := bt_nat s i hl
    have hdr := List.drop_eq_getElem_cons hl
    obtain ⟨b, hbb⟩ : ∃ b, b = s.data.toList[i]'hl := ⟨_, rfl⟩
    rw [← hbb] at hb hdr
    rw [PFileParses.jitneyref03_Words.l0, if_pos (by omega), if_pos (by omega), if_pos (by omega), hb, PFileParses.jitneyref03_Words.j1, hb]
    by_cases h32 : b = 32
    · have e32 : ((b.toNat : Int) != 32) = false := by rw [h32]; rfl
      rw [e32, if_neg (by decide)]
      have hcut : cutAt 32 (s.data.toList.drop st) = w :: cutAt 32 (s.data.toList.drop (i + 1)) := by
        rw [hw, hdr, h32, cutAt_app 32 w _ (fun b hb => isW_32 (hww b hb))]
      by_cases h1 : (i : Int) = (st : Int)
      · have hw2 : w = [] := List.eq_nil_of_length_eq_zero (by omega)
        have hall : allW (s.data.toList.drop st) = false := by
          unfold allW
          rw [hcut, hw2]
          rfl
        rw [if_pos h1]
        unfold wd
        rw [hall]
        rfl
      · rw [if_neg h1, if_pos (by omega), if_pos (by omega), if_pos (by omega), if_pos (by omega), wrap_id (by omega) (by omega), Int.toNat_natCast, Int.toNat_natCast, extract_mk s st i w hw hwl, show ((i : Int) + 1) = ((i + 1 : Nat) : Int) by omega,
          words_l s hs d (i + 1) (i + 1) _ (acc ++ [mk w]) [] (by omega) (by omega) (by omega) (by omega) (by rw [List.length_append, List.length_singleton]; omega) rfl (by simp) (fun b hb => by simp at hb)]
        have hwd : wordB (mk w) = true := Wd.wordB ⟨fun e => by rw [e] at hwl; simp at hwl; omega, hww⟩
        have hall : allW (s.data.toList.drop st) = allW (s.data.toList.drop (i + 1)) := by
          unfold allW
          rw [hcut, List.map_cons, List.all_cons, hwd, Bool.true_and]
        unfold wd
        rw [hall, hcut, List.map_cons, List.append_assoc]
        rfl
    · have hne : b.toNat ≠ 32 := fun h => h32 (UInt8.toNat_inj.1 h)
      have e32 : ((b.toNat : Int) != 32) = true := bne_iff_ne.2 (by omega)
      rw [e32, if_pos rfl, if_pos (by omega), if_pos (by omega)]
      have hbad : isW b = false → allW (s.data.toList.drop st) = false := by
        intro hW
        obtain ⟨x, hx, hbx⟩ := cutAt_mem 32 b h32 (s.data.toList.drop st) (by rw [hw, hdr]; simp)
        unfold allW
        rw [List.all_eq_false]
        refine ⟨mk x, List.mem_map_of_mem hx, ?_⟩
        unfold wordB
        rw [data_mk]
        have : x.all isW = false := List.all_eq_false.2 ⟨b, hbx, by rw [hW]; decide⟩
        rw [this, Bool.false_and]
        exact Bool.false_ne_true
      have hj2 : ∀ q, isW b = false → PFileParses.jitneyref03_Words.j2 (q + 1) s acc (st : Int) (i : Int) true = some (wd acc (s.data.toList.drop st)) := by
        intro q hW
        rw [PFileParses.jitneyref03_Words.j2, if_pos rfl]
        unfold wd
        rw [hbad hW]
        rfl
      by_cases h1 : (b.toNat : Int) < 33
      · rw [if_pos h1]
        exact hj2 _ (Bool.eq_false_iff.2 (fun h => by have := (isW_iff b).1 h; omega))
      · rw [if_neg h1]
        by_cases h2 : (b.toNat : Int) > 126
        · rw [decide_eq_true h2]
          exact hj2 _ (Bool.eq_false_iff.2 (fun h => by have := (isW_iff b).1 h; omega))
        · have hW : isW b = true := (isW_iff b).2 (by omega)
          rw [decide_eq_false h2, PFileParses.jitneyref03_Words.j2, if_neg (by decide), wrap_id (by omega) (by omega), show ((i : Int) + 1) = ((i + 1 : Nat) : Int) by omega]
          refine words_l s hs d st (i + 1) k acc (w ++ [b]) (by omega) (by omega) (by omega) (by omega) hac (by rw [hw, hdr, List.append_assoc]; rfl) (by rw [List.length_append, List.length_singleton]; omega) ?_
          intro x hx
          rcases List.mem_append.1 hx with h | h
          · exact hww x h
          · rw [List.mem_singleton.1 h]; exact hW
theorem wordsR_f (s : ByteArray) (hs : s.size < 8796093022208) (k : Nat) (hk : 3 * s.size + 20 < k) : PFileParses.jitneyref03_Words.f k s = some (wordsS s) := by
  unfold PFileParses.jitneyref03_Words.f wordsS
  rw [Option.bind_some, toList_data]
  by_cases h : s.data.toList = []
  · have hz : s.size = 0 := by rw [← ba_len, h]; rfl
    rw [if_pos h, if_pos hz]
  · have hz : s.size ≠ 0 := fun e => h (List.eq_nil_of_length_eq_zero (by rw [ba_len]; exact e))
    rw [if_neg h, if_neg hz]
    have := words_l s hs s.size 0 0 k [] [] (by omega) (by omega) (by omega) (by omega) (by simp) rfl rfl (fun b hb => by simp at hb)
    refine this.trans ?_
    rw [List.drop_zero]
    rfl
def lnR (acc : List ByteArray) (l : List UInt8) : List ByteArray × Int := if (cutAt 10 l).getLast? = some [] then (acc ++ (cutAt 10 l).dropLast.map mk, 0) else ([], 20)
theorem lines_l (s : ByteArray) (hs : s.size < 8796093022208) : ∀ (d st i k : Nat) (acc : List ByteArray) (w : List UInt8), s.size - i = d → d < k → st ≤ i → i ≤ s.size → acc.length ≤ st → s.data.toList.drop st = w ++ s.data.toList.drop i → w.length = i - st → (∀ b ∈ w, b ≠ 10) →
    PFileParses.jitneyref03_Lines.l0 k s acc (st : Int) (i : Int) = some (lnR acc (s.data.toList.drop st))
  | 0, st, i, k + 1, acc, w, hd, hk, hst, hi, hac, hw, hwl, hww => by
    have e : i = s.size := by omega
    rw [PFileParses.jitneyref03_Lines.l0, if_neg (by omega)]
    rw [List.drop_eq_nil_of_le (show s.data.toList.length ≤ i by rw [ba_len]; omega), List.append_nil] at hw
    unfold lnR
    rw [hw, cutAt_free 10 w hww]
    by_cases h1 : (st : Int) < (s.size : Int)
    · rw [if_pos h1, if_neg (by intro h; simp at h; rw [h] at hwl; simp at hwl; omega)]
    · have hw2 : w = [] := List.eq_nil_of_length_eq_zero (by omega)
      rw [if_neg h1, hw2]
      simp
  | d + 1, st, i, k + 1, acc, w, hd, hk, hst, hi, hac, hw, hwl, hww => by
    have hl : i < s.data.toList.length := by rw [ba_len]; omega
    have hb := bt_nat s i hl
    have hdr := List.drop_eq_getElem_cons hl
    obtain ⟨b, hbb⟩ : ∃ b, b = s.data.toList[i]'hl := ⟨_, rfl⟩
    rw [← hbb] at hb hdr
    rw [PFileParses.jitneyref03_Lines.l0, if_pos (by omega), if_pos (by omega), hb]
    by_cases h10 : b = 10
    · have hcut : cutAt 10 (s.data.toList.drop st) = w :: cutAt 10 (s.data.toList.drop (i + 1)) := by
        rw [hw, hdr, h10, cutAt_app 10 w _ hww]
      rw [if_pos (by rw [h10]; rfl), if_pos (by omega), if_pos (by omega), if_pos (by omega), if_pos (by omega), wrap_id (by omega) (by omega), Int.toNat_natCast, Int.toNat_natCast, extract_mk s st i w hw hwl, show ((i : Int) + 1) = ((i + 1 : Nat) : Int) by omega,
        lines_l s hs d (i + 1) (i + 1) k (acc ++ [mk w]) [] (by omega) (by omega) (by omega) (by omega) (by rw [List.length_append, List.length_singleton]; omega) rfl (by simp) (fun b hb => by simp at hb)]
      unfold lnR
      rw [hcut]
      have hne := cutAt_ne 10 (s.data.toList.drop (i + 1))
      revert hne
      cases cutAt 10 (s.data.toList.drop (i + 1)) with
      | nil => intro h; exact absurd rfl h
      | cons y ys => intro _; simp [List.getLast?_cons_cons, List.dropLast_cons_cons]
    · have hne : b.toNat ≠ 10 := fun h => h10 (UInt8.toNat_inj.1 h)
      rw [if_neg (by omega), wrap_id (by omega) (by omega), show ((i : Int) + 1) = ((i + 1 : Nat) : Int) by omega]
      refine lines_l s hs d st (i + 1) k acc (w ++ [b]) (by omega) (by omega) (by omega) (by omega) hac (by rw [hw, hdr, List.append_assoc]; rfl) (by rw [List.length_append, List.length_singleton]; omega) ?_
      intro x hx
      rcases List.mem_append.1 hx with h | h
      · exact hww x h
      · rw [List.mem_singleton.1 h]; exact h10
theorem linesR_f (s : ByteArray) : ∃ k, PFileParses.jitneyref03_Lines.f k s = some (linesS s) := by
  refine ⟨s.size + 1, ?_⟩
  unfold PFileParses.jitneyref03_Lines.f linesS
  by_cases h : (s.size : Int) > 1048576
  · rw [if_pos h, if_pos (by omega)]
  · rw [if_neg h, if_neg (by omega)]
    have := lines_l s (by omega) s.size 0 0 (s.size + 1) [] [] (by omega) (by omega) (by omega) (by omega) (by simp) rfl rfl (fun b hb => by simp at hb)
    refine this.trans ?_
    rw [List.drop_zero]
    rfl
theorem nextR_f (lines : List ByteArray) (i : Nat) (first : ByteArray) (N : Nat) (hN : N < 8796093022208) (hs : ∀ x ∈ lines, x.size ≤ N) : ∃ k, PFileParses.jitneyref23_words.f k lines (i : Int) first = some (ans (nextS lines i first)) := by
  refine ⟨3 * N + 21, ?_⟩
  unfold PFileParses.jitneyref23_words.f nextS
  by_cases h : i < lines.length
  · have hsz := hs _ (List.getElem_mem h)
    rw [if_neg (by omega), if_pos (by omega), if_pos (by omega), rdOf_at _ lines i h, wordsR_f _ (by omega) _ (by omega), List.getElem?_eq_getElem h, Option.bind_some]
    dsimp only
    obtain ⟨r, hr⟩ : ∃ r, r = wordsS (lines[i]'h) := ⟨_, rfl⟩
    rw [← hr]
    have j21 : ∀ q x, PFileParses.jitneyref23_words.j0 (q + 1) x true = some ([], 21) := by
      intro q x
      rw [PFileParses.jitneyref23_words.j0, if_pos rfl]
    by_cases h0 : r.2 = 0
    · rw [if_pos h0]
      cases hr1 : r.1 with
      | nil =>
        rw [if_pos (show (([] : List ByteArray).length : Int) = 0 from rfl), j21, if_pos (.inr (.inl rfl))]
        rfl
      | cons a rest =>
        rw [if_neg (by simp only [List.length_cons]; omega), if_pos (by simp only [List.length_cons]; omega), show rdOf ByteArray.empty (a :: rest) 0 = a from rfl]
        by_cases hf : a = first
        · have e1 : (a.toList != first.toList) = false := by rw [hf]; simp
          have hcond : ¬ (r.2 ≠ 0 ∨ a :: rest = [] ∨ (a :: rest).head? ≠ some first) := by
            rintro (g | g | g)
            · exact g h0
            · cases g
            · exact g (by rw [hf]; rfl)
          rw [e1, PFileParses.jitneyref23_words.j0, if_neg (by decide), if_neg hcond]
          by_cases hm : ((a :: rest).length : Int) > 4097
          · rw [if_pos hm, if_pos (show 4096 < (a :: rest).length - 1 by omega)]
            rfl
          · rw [if_neg hm, if_pos (show 1 ≤ ((a :: rest).length : Int) by simp only [List.length_cons]; omega), if_neg (show ¬ 4096 < (a :: rest).length - 1 by omega)]
            rfl
        · have e1 : (a.toList != first.toList) = true := by
            rw [bne_iff_ne, toList_data, toList_data]
            intro e
            exact hf (by rw [← mk_data a, ← mk_data first, e])
          rw [e1, j21, if_pos (.inr (.inr (fun g => hf (Option.some.inj g))))]
          rfl
    · rw [if_neg h0, j21, if_pos (.inl h0)]
      rfl
  · rw [if_pos (by omega), List.getElem?_eq_none (by omega)]
    rfl
end Go.Proofs.YtdgifgdadminbaaDoor

/-! ### Zw -/
set_option linter.unusedSimpArgs false
set_option linter.unusedVariables false
namespace Go.Proofs.YtdgifgdadminbaaDoor
open Go.RowKit Go.Proofs.YtdgifgdadminbaaDoorW.PrintWords Sp
open PFileParses (wrap_id ba_len toList_data bt_nat)

theorem linesR_c (s : ByteArray) (w : World) :
    Calls Tryd.prog 34 #[.string s] w fun e w' => ∃ v : Value, e = .returned (.tuple #[v, .int .i64 (linesS s).2]) ∧ Kd.R Kd.string 9 w' w.heap.size (fun _ => True) v (linesS s).1 ∧ Below w.heap.size w w' := by
  obtain ⟨k, hk⟩ := linesR_f s
  exact PFileParses.jitneyref03_Lines.calls k s (linesS s).1 (linesS s).2 w hk
theorem nextR_c (A : Option Addr) (c : Nat) (lines : List ByteArray) (i : Nat) (first : ByteArray) (N : Nat) (w : World) (hC : Kd.string.C w A lines.length lines) (hc : lines.length ≤ c) (hN : N < 8796093022208) (hs : ∀ x ∈ lines, x.size ≤ N) :
    Calls Tryd.prog 35 #[.slice A lines.length c, .int .i64 i, .string first] w fun e w' => ∃ v : Value, e = .returned (.tuple #[v, .int .i64 (ans (nextS lines i first)).2]) ∧ Kd.Q Kd.string 9 w' w.heap.size (fun _ => True) v (ans (nextS lines i first)).1 ∧ Below w.heap.size w w' := by
  obtain ⟨k, hk⟩ := nextR_f lines i first N hN hs
  exact PFileParses.jitneyref23_words.calls k A c lines (i : Int) first _ _ w hC hc hk
theorem wholeR_c (s : ByteArray) (hs : s.size < 4611686018427387904) (w : World) :
    Calls Tryd.prog 36 #[.string s] w fun e w' => e = .returned (.tuple #[.int .i64 (wholeS s).1, .int .i64 (wholeS s).2]) ∧ Drawn0 w w' :=
  PFileParses.jitneyref03_Whole.calls _ s (wholeS s).1 (wholeS s).2 w (wholeR_f s hs _ (Nat.lt_succ_self _))
theorem wholesR_c (A : Option Addr) (c : Nat) (ws : List ByteArray) (N : Nat) (w : World) (hC : Kd.string.C w A ws.length ws) (hc : ws.length ≤ c) (hN : N < 4611686018427387904) (hs : ∀ x ∈ ws, x.size ≤ N) (hl : ws.length < 17592186044416) :
    Calls Tryd.prog 38 #[.slice A ws.length c] w fun e w' => ∃ v : Value, e = .returned (.tuple #[v, .int .i64 (ans (readAll wholeS ws)).2]) ∧ Kd.R (Kd.int .i64) 3 w' w.heap.size (fun _ => True) v (ans (readAll wholeS ws)).1 ∧ Below w.heap.size w w' := by
  obtain ⟨k, hk⟩ := wholes_f ws N hN hs hl
  exact PFileParses.jitneyref23_wholes.calls k A c ws _ _ w hC hc hk
theorem longsR_c (A : Option Addr) (c : Nat) (ws : List ByteArray) (N : Nat) (w : World) (hC : Kd.string.C w A ws.length ws) (hc : ws.length ≤ c) (hN : N < 4611686018427387904) (hs : ∀ x ∈ ws, x.size ≤ N) (hl : ws.length < 17592186044416) :
    Calls Tryd.prog 37 #[.slice A ws.length c] w fun e w' => ∃ v : Value, e = .returned (.tuple #[v, .int .i64 (ans (readAll longS ws)).2]) ∧ Kd.R (Kd.int .i64) 2 w' w.heap.size (fun _ => True) v (ans (readAll longS ws)).1 ∧ Below w.heap.size w w' := by
  obtain ⟨k, hk⟩ := longs_f ws N hN hs hl
  exact PFileParses.jitneyref23_longs.calls k A c ws _ _ w hC hc hk
theorem sameR_c (rv tv lv rv' tv' lv' : Value) (p : Pl) (w : World) (hp : PlanAt rv tv lv p w) (hq : PlanAt rv' tv' lv' p w) (N : Nat) (hN : N < 4611686018427387904) (n1 : p.routes.length ≤ N) (n2 : p.times.length ≤ N) (n3 : p.left.length ≤ N) (r1 : ∀ r ∈ p.routes, r.length ≤ N) (r2 : ∀ r ∈ p.times, r.length ≤ N) :
    Calls Tryd.prog 14 #[.agg #[rv, tv, lv, .int .i64 p.cost], .agg #[rv', tv', lv', .int .i64 p.cost]] w fun e w' => e = .returned (.bool true) ∧ Below w.heap.size w w' := by
  obtain ⟨⟨A1, c1, rfl, l1, h1⟩, ⟨A2, c2, rfl, l2, h2⟩, ⟨A3, c3, rfl, l3, h3⟩⟩ := hp
  obtain ⟨⟨B1, d1, rfl, m1, g1⟩, ⟨B2, d2, rfl, m2, g2⟩, ⟨B3, d3, rfl, m3, g3⟩⟩ := hq
  obtain ⟨k, hk⟩ := same_self p N hN n1 n2 n3 r1 r2
  exact PFileParses.jitneyref22_Same.calls k A1 c1 p.routes A2 c2 p.times A3 c3 p.left p.cost B1 d1 p.routes B2 d2 p.times B3 d3 p.left p.cost true w h1 l1 h2 l2 h3 l3 g1 m1 g2 m2 g3 m3 hk
end Go.Proofs.YtdgifgdadminbaaDoor

/-! ### Zx -/
set_option linter.unusedSimpArgs false
set_option linter.unusedVariables false
namespace Go.Proofs.YtdgifgdadminbaaDoor
open Go.RowKit Go.Proofs.YtdgifgdadminbaaDoorW.PrintWords Sp
open PFileParses (wrap_id ba_len toList_data info3 info2 info9)

structure PT (P : Nat) (rv tv lv : Value) (cost : Int) (routes times : List (List Int)) (w : World) : Prop where
  blk : w.heap[P]? = some (.cells #[rv, tv, lv, .int .i64 cost] 31 (0, 0))
  rows : ∃ okR okT : Nat → Prop, Kd.R kRow 25 w (P + 1) okR rv routes ∧ Kd.R kTim 61 w (P + 1) okT tv times ∧ ∀ k, okR k → ¬ okT k

theorem PT.lt {P rv tv lv cost routes times w} (h : PT P rv tv lv cost routes times w) : P < w.heap.size := by
  rcases Nat.lt_or_ge P w.heap.size with g | g
  · exact g
  · have := h.blk
    rw [Array.getElem?_eq_none g] at this
    cases this
theorem PT.below {P rv tv lv cost routes times w w'} (h : PT P rv tv lv cost routes times w) (hb : Below w.heap.size w w') : PT P rv tv lv cost routes times w' := by
  obtain ⟨okR, okT, h1, h2, h3⟩ := h.rows
  exact ⟨(hb.block P h.lt).trans h.blk, okR, okT, Kd.R_below h1 hb, Kd.R_below h2 hb, h3⟩
theorem PT.ex {P rv tv lv cost routes times w w'} {R : Nat} (h : PT P rv tv lv cost routes times w) (hb : Ex R w w') (hR : R < P) : PT P rv tv lv cost routes times w' := by
  obtain ⟨okR, okT, h1, h2, h3⟩ := h.rows
  refine ⟨(hb.block P h.lt (by omega)).trans h.blk, _, _, Kd.R_step (Kd.R_bound h1) (fun k hk hlt => hb.block k hlt (by omega)), Kd.R_step (Kd.R_bound h2) (fun k hk hlt => hb.block k hlt (by omega)), fun k a b => h3 k a.1 b.1⟩

theorem PT.grewR {w1 w2 w3 : World} {P : Nat} {rv tv lv v1 : Value} {cost : Int} {routes times : List (List Int)} {row : List Int} {okR okT : Nat → Prop} (hblk : w1.heap[P]? = some (.cells #[rv, tv, lv, .int .i64 cost] 31 (0, 0)))
    (hR : Kd.R kRow 25 w1 (P + 1) okR rv routes) (hT : Kd.R kTim 61 w1 (P + 1) okT tv times) (hd : ∀ k, okR k → ¬ okT k) (hTl : ∀ k, okT k → k < w1.heap.size) (hlt : P < w1.heap.size) (hb : Below w1.heap.size w1 w2) (hg : w2.grownBy w3 rv.ownBlock)
    (hR1 : Kd.R kRow 25 w3 (P + 1) (fun k => okR k ∨ w1.heap.size ≤ k) v1 (routes ++ [row])) : PT P v1 tv lv cost (routes ++ [row]) times (w3.setCell ⟨P, 0, none⟩ v1) := by
  have h3 := grow_blk hR hblk hlt hb hg
  refine ⟨by simp [World.setCell, Array.getElem?_modify, h3], fun k => (okR k ∨ w1.heap.size ≤ k) ∧ P + 1 ≤ k, okT, ?_, ?_, ?_⟩
  · exact Kd.R_far (Kd.R_mono (Kd.R_bound hR1) (fun k h => ⟨h.1, h.2.1⟩)) (fun k h => by show k ≠ P; omega) _
  · have h1 := Kd.R_below hT hb
    have h2 := Kd.R_grown h1 hg (fun k hk e => hd k (hR.1 k e.symm) hk)
    have h3 := Kd.R_far (p := ⟨P, 0, none⟩) (Kd.R_bound h2) (fun k h => by show k ≠ P; omega) v1
    exact Kd.R_mono h3 (fun k h => h.1)
  · rintro k ⟨h | h, _⟩ ht
    · exact hd k h ht
    · have := hTl k ht; omega
theorem PT.grewT {w1 w2 w3 : World} {P : Nat} {rv tv lv v1 : Value} {cost : Int} {routes times : List (List Int)} {row : List Int} {okR okT : Nat → Prop} (hblk : w1.heap[P]? = some (.cells #[rv, tv, lv, .int .i64 cost] 31 (0, 0)))
    (hR : Kd.R kRow 25 w1 (P + 1) okR rv routes) (hT : Kd.R kTim 61 w1 (P + 1) okT tv times) (hd : ∀ k, okR k → ¬ okT k) (hRl : ∀ k, okR k → k < w1.heap.size) (hlt : P < w1.heap.size) (hb : Below w1.heap.size w1 w2) (hg : w2.grownBy w3 tv.ownBlock)
    (hT1 : Kd.R kTim 61 w3 (P + 1) (fun k => okT k ∨ w1.heap.size ≤ k) v1 (times ++ [row])) : PT P rv v1 lv cost routes (times ++ [row]) (w3.setCell ⟨P, 1, none⟩ v1) := by
  have h3 := grow_blk hT hblk hlt hb hg
  refine ⟨by simp [World.setCell, Array.getElem?_modify, h3], okR, fun k => (okT k ∨ w1.heap.size ≤ k) ∧ P + 1 ≤ k, ?_, ?_, ?_⟩
  · have h1 := Kd.R_below hR hb
    have h2 := Kd.R_grown h1 hg (fun k hk e => hd k hk (hT.1 k e.symm))
    have h3 := Kd.R_far (p := ⟨P, 1, none⟩) (Kd.R_bound h2) (fun k h => by show k ≠ P; omega) v1
    exact Kd.R_mono h3 (fun k h => h.1)
  · exact Kd.R_far (Kd.R_mono (Kd.R_bound hT1) (fun k h => ⟨h.1, h.2.1⟩)) (fun k h => by show k ≠ P; omega) _
  · rintro k hr ⟨h | h, _⟩
    · exact hd k hr h
    · have := hRl k hr; omega

theorem PT.setLeft {P rv tv lv cost routes times w} (h : PT P rv tv lv cost routes times w) (v : Value) : PT P rv tv v cost routes times (w.setCell ⟨P, 2, none⟩ v) := by
  obtain ⟨okR, okT, h1, h2, h3⟩ := h.rows
  have hb := h.blk
  refine ⟨by simp [World.setCell, Array.getElem?_modify, hb], _, _, Kd.R_far (Kd.R_bound h1) (fun k h => by show k ≠ P; omega) _, Kd.R_far (Kd.R_bound h2) (fun k h => by show k ≠ P; omega) _, fun k a b => h3 k a.1 b.1⟩

end Go.Proofs.YtdgifgdadminbaaDoor

/-! ### Zm -/
set_option linter.unusedSimpArgs false
set_option linter.unusedVariables false
namespace Go.Proofs.YtdgifgdadminbaaDoor
open Go.RowKit Go.Proofs.YtdgifgdadminbaaDoorW.PrintWords Sp

/-- A plan that is being read; its rows lie ahead of block a. -/
structure PTa (P a : Nat) (rv tv lv : Value) (cost : Int) (routes times : List (List Int)) (w : World) : Prop where
  blk : w.heap[P]? = some (.cells #[rv, tv, lv, .int .i64 cost] 31 (0, 0))
  rows : ∃ okR okT : Nat → Prop, Kd.R kRow 25 w (P + 1) okR rv routes ∧ Kd.R kTim 61 w (P + 1) okT tv times ∧ (∀ k, okR k → ¬ okT k) ∧ (∀ k, okR k → k < a) ∧ ∀ k, okT k → k < a
theorem PT.cap {P rv tv lv cost routes times w} (h : PT P rv tv lv cost routes times w) : PTa P w.heap.size rv tv lv cost routes times w := by
  obtain ⟨okR, okT, h1, h2, h3⟩ := h.rows
  exact ⟨h.blk, _, _, Kd.R_bound h1, Kd.R_bound h2, fun k a b => h3 k a.1 b.1, fun k h => h.2.2.1, fun k h => h.2.2.1⟩
theorem PTa.lt {P a rv tv lv cost routes times w} (h : PTa P a rv tv lv cost routes times w) : P < w.heap.size := by
  rcases Nat.lt_or_ge P w.heap.size with g | g
  · exact g
  · have := h.blk
    rw [Array.getElem?_eq_none g] at this
    cases this
theorem PTa.below {P a rv tv lv cost routes times w w'} (h : PTa P a rv tv lv cost routes times w) (hb : Below w.heap.size w w') : PTa P a rv tv lv cost routes times w' := by
  obtain ⟨okR, okT, h1, h2, h3⟩ := h.rows
  exact ⟨(hb.block P h.lt).trans h.blk, okR, okT, Kd.R_below h1 hb, Kd.R_below h2 hb, h3⟩

theorem grow_pre3 {e0 k0 : Nat} {w : World} {P a b : Nat} {rv v : Value} {rows : List (List Int)} {row : List Int} {ok : Nat → Prop} (hR : Kd.R (Kd.slice k0 (Kd.int .i64)) e0 w (P + 1) ok rv rows)
    (hv : Kd.R (Kd.int .i64) k0 w a (fun k => k < b) v row) (hPa : P + 1 ≤ a) (hd : ∀ k, a ≤ k → k < b → ¬ ok k) :
    Kd.R (Kd.slice k0 (Kd.int .i64)) e0 w (P + 1) (fun k => ok k ∨ (a ≤ k ∧ k < b) ∨ w.heap.size ≤ k) rv rows ∧ (Kd.slice k0 (Kd.int .i64)).M w (P + 1) (fun k => a ≤ k ∧ k < b) row [v] ∧
    (∀ k, (a ≤ k ∧ k < b) → (ok k ∨ (a ≤ k ∧ k < b) ∨ w.heap.size ≤ k) ∧ some k ≠ rv.ownBlock) ∧ (∀ k, w.heap.size ≤ k → (ok k ∨ (a ≤ k ∧ k < b) ∨ w.heap.size ≤ k)) :=
  ⟨Kd.R_mono hR (fun k h => .inl h), ⟨v, rfl, Kd.R_lower (Kd.R_mono (Kd.R_bound hv) (fun k h => ⟨h.2.1, h.1⟩)) hPa⟩, fun k hk => ⟨.inr (.inl hk), fun e => hd k hk.1 hk.2 (hR.1 k e.symm)⟩, fun k hk => .inr (.inr hk)⟩

theorem grow_blk3 {e0 k0 : Nat} {w w3 : World} {P : Nat} {rv : Value} {rows : List (List Int)} {ok : Nat → Prop} {o : Obj} (hR : Kd.R (Kd.slice k0 (Kd.int .i64)) e0 w (P + 1) ok rv rows) (hP : w.heap[P]? = some o) (hlt : P < w.heap.size) (hg : w.grownBy w3 rv.ownBlock) : w3.heap[P]? = some o :=
  (hg.block P hlt (fun e => by have := Kd.R_base hR P e.symm; omega)).trans hP
/-- The routes have grown; the new times wait. -/
theorem grew1 {w9 w10 : World} {P a b c : Nat} {rv tv lv v1 v9 : Value} {cost : Int} {routes times : List (List Int)} {row tsx : List Int} {okR okT : Nat → Prop} (hblk : w9.heap[P]? = some (.cells #[rv, tv, lv, .int .i64 cost] 31 (0, 0)))
    (hR : Kd.R kRow 25 w9 (P + 1) okR rv routes) (hT : Kd.R kTim 61 w9 (P + 1) okT tv times) (hd : ∀ k, okR k → ¬ okT k) (hRl : ∀ k, okR k → k < a) (hv9 : Kd.R (Kd.int .i64) 2 w9 b (fun k => k < c) v9 tsx) (hab : a ≤ b) (hPa : P < a) (hPw : P < w9.heap.size)
    (hg : w9.grownBy w10 rv.ownBlock) (hR1 : Kd.R kRow 25 w10 (P + 1) (fun k => okR k ∨ (a ≤ k ∧ k < b) ∨ w9.heap.size ≤ k) v1 (routes ++ [row])) :
    (w10.setCell ⟨P, 0, none⟩ v1).heap[P]? = some (.cells #[v1, tv, lv, .int .i64 cost] 31 (0, 0)) ∧ Kd.R kRow 25 (w10.setCell ⟨P, 0, none⟩ v1) (P + 1) (fun k => okR k ∨ (a ≤ k ∧ k < b) ∨ w9.heap.size ≤ k) v1 (routes ++ [row]) ∧
      Kd.R kTim 61 (w10.setCell ⟨P, 0, none⟩ v1) (P + 1) okT tv times ∧ Kd.R (Kd.int .i64) 2 (w10.setCell ⟨P, 0, none⟩ v1) b (fun k => k < c) v9 tsx := by
  have h10 : w10.heap[P]? = some (.cells #[rv, tv, lv, .int .i64 cost] 31 (0, 0)) := (hg.block P hPw (fun e => by have := Kd.R_base hR P e.symm; omega)).trans hblk
  refine ⟨by simp [World.setCell, Array.getElem?_modify, h10], ?_, ?_, ?_⟩
  · exact Kd.R_mono (Kd.R_far (p := ⟨P, 0, none⟩) (Kd.R_bound hR1) (fun k h => by show k ≠ P; have := h.2.1; omega) v1) (fun k h => h.1)
  · have h1 := Kd.R_grown hT hg (fun k hk e => hd k (hR.1 k e.symm) hk)
    exact Kd.R_mono (Kd.R_far (p := ⟨P, 0, none⟩) (Kd.R_bound h1) (fun k h => by show k ≠ P; have := h.2.1; omega) v1) (fun k h => h.1)
  · have h1 := Kd.R_grown (Kd.R_bound hv9) hg (fun k hk e => by have := hRl k (hR.1 k e.symm); have := hk.2.1; omega)
    exact Kd.R_mono (Kd.R_far (p := ⟨P, 0, none⟩) h1 (fun k h => by show k ≠ P; have := h.2.1; omega) v1) (fun k h => h.1)

/-- The times have grown too. -/
theorem grew2 {w11 w12 : World} {P b c : Nat} {tv lv v1 v2 : Value} {cost : Int} {routes times times' : List (List Int)} {okR okT : Nat → Prop} (hblk : w11.heap[P]? = some (.cells #[v1, tv, lv, .int .i64 cost] 31 (0, 0)))
    (hR : Kd.R kRow 25 w11 (P + 1) okR v1 routes) (hT : Kd.R kTim 61 w11 (P + 1) okT tv times) (hd : ∀ k, okR k → ¬ okT k ∧ ¬ (b ≤ k ∧ k < c)) (hPw : P < w11.heap.size)
    (hg : w11.grownBy w12 tv.ownBlock) (hT1 : Kd.R kTim 61 w12 (P + 1) (fun k => okT k ∨ (b ≤ k ∧ k < c) ∨ w11.heap.size ≤ k) v2 times') :
    PT P v1 v2 lv cost routes times' (w12.setCell ⟨P, 1, none⟩ v2) := by
  have h12 : w12.heap[P]? = some (.cells #[v1, tv, lv, .int .i64 cost] 31 (0, 0)) := (hg.block P hPw (fun e => by have := Kd.R_base hT P e.symm; omega)).trans hblk
  refine ⟨by simp [World.setCell, Array.getElem?_modify, h12], fun k => okR k ∧ k < w11.heap.size, fun k => okT k ∨ (b ≤ k ∧ k < c) ∨ w11.heap.size ≤ k, ?_, ?_, ?_⟩
  · have h1 := Kd.R_grown (Kd.R_bound hR) hg (fun k hk e => (hd k hk.1).1 (hT.1 k e.symm))
    exact Kd.R_mono (Kd.R_far (p := ⟨P, 1, none⟩) h1 (fun k h => by show k ≠ P; have := h.2.1; omega) v2) (fun k h => ⟨h.1, h.2.2.1⟩)
  · exact Kd.R_mono (Kd.R_far (p := ⟨P, 1, none⟩) (Kd.R_bound hT1) (fun k h => by show k ≠ P; have := h.2.1; omega) v2) (fun k h => h.1)
  · rintro k ⟨h, hl⟩ (ht | ht | ht)
    · exact (hd k h).1 ht
    · exact (hd k h).2 ht
    · omega
end Go.Proofs.YtdgifgdadminbaaDoor
