/- The laws on the weight, walked: whatever the turns, the call returns true. No condition. -/
import Derived.Test.YtihfnoaannjegaaWt
import Derived.Test.YtihfnoaannjegaaOpen
namespace Go.Proofs.Ytihfnoaannjegaa
open Go.RowKit Go.Maps Go.MapKept

/-! ### plain -/
def itT (good : Bool) : Nat → Int → Int
  | 0, n => n
  | k + 1, n => turnZ (itT good k n) good
theorem turnZ_mono (good : Bool) {a b : Int} (h : a ≤ b) : turnZ a good ≤ turnZ b good := by
  unfold turnZ; cases good <;> simp only [Bool.false_eq_true, if_false, if_true] <;> (repeat' split) <;> omega
theorem itT_mono (good : Bool) (k : Nat) {a b : Int} (h : a ≤ b) : itT good k a ≤ itT good k b := by
  induction k with
  | zero => exact h
  | succ k ih => exact turnZ_mono good ih
theorem itT_bd (good : Bool) (k : Nat) {n : Int} (h1 : 1 ≤ n) (h2 : n ≤ 1000000) : 1 ≤ itT good k n ∧ itT good k n ≤ 1000000 := by
  induction k with
  | zero => exact ⟨h1, h2⟩
  | succ k ih =>
    rcases turnZ_bd (itT good k n) good ih.1 with h | h
    · exact h
    · omega
theorem itT_true {n : Int} (h1 : 1 ≤ n) (h2 : n ≤ 1000000) : itT true 60 n = 1 := by
  have a := itT_mono true 60 h2
  have b := (itT_bd true 60 h1 h2).1
  have c : itT true 60 1000000 = 1 := by decide +kernel
  omega
theorem itT_false {n : Int} (h1 : 1 ≤ n) (h2 : n ≤ 1000000) : itT false 60 n = 1000000 := by
  have a := itT_mono false 60 h1
  have b := (itT_bd false 60 h1 h2).2
  have c : itT false 60 1 = 1000000 := by decide +kernel
  omega
theorem turnZ_true {n : Int} (h1 : 1 ≤ n) : turnZ n true ≤ n := by unfold turnZ; simp only [if_true]; split <;> omega
theorem turnZ_false {n : Int} (h1 : 1 ≤ n) (h2 : n ≤ 1000000) : n ≤ turnZ n false := by unfold turnZ; simp only [Bool.false_eq_true, if_false]; split <;> omega

def bEnc (x : Bool) : List Value := [.bool x]

theorem IsW.new {w w1 : World} (hB : Below w.heap.size w w1) : IsW (w1.alloc (.cells #[.int .i64 0] 39)) w1.heap.size 1000 ∧ Below w.heap.size w (w1.alloc (.cells #[.int .i64 0] 39)) :=
  ⟨⟨(MapKept.heap_alloc w1 _).1, by omega, by omega⟩, hB.alloc hB.size _⟩

set_option maxRecDepth 100000 in
set_option maxHeartbeats 1600000 in
theorem turns_walk (a : Option Addr) (cap : Nat) (l : List Bool) (ends : Bool) (w : World) (hr : Reads bEnc 1 w a l) :
    Calls Try.prog 7 #[.slice a l.length cap, .bool ends] w fun e w' => e = .returned (.bool true) ∧ Below w.heap.size w w' := by
  by_cases hlen : 200 < l.length
  · have hd : decide (200 < (l.length : Int)) = true := by simp; omega
    go_enter Try.func7, Try.ntmps7
    go_wp2_with fail
    refine (alive_any _).mono ?_
    rintro e w1 ⟨rfl, hB1⟩
    go_wp2
    go_ret
    exact ⟨rfl, hB1⟩
  · have hd : decide (200 < (l.length : Int)) = false := by simp; omega
    go_enter Try.func7, Try.ntmps7
    go_wp2_with fail
    refine (alive_any _).mono ?_
    rintro e w1 ⟨rfl, hB1⟩
    obtain ⟨hW1, hB2⟩ := IsW.new hB1
    have hgs := hB1.size
    go_wp2
    go_loopw [7, 8, 9, 17] (fun _ _ _ i wr => ∃ (k : Nat) (n : Int), k ≤ l.length ∧ i = .int .i64 k ∧ IsW wr w1.heap.size n ∧ Below w.heap.size w wr) (fun _ _ _ i _ => l.length - (intOf i).toNat)
    case atStart => exact ⟨0, 1000, Nat.zero_le _, rfl, hW1, hB2⟩
    case round =>
      obtain ⟨k, n, hk, rfl, hW, hB⟩ := hrel
      by_cases hlt : k < l.length
      · obtain ⟨x, hx⟩ : ∃ x, l[k]? = some x := ⟨_, List.getElem?_eq_getElem hlt⟩
        obtain ⟨ad, rfl, hc⟩ := (hr.below hB) k x hx
        have hc0 : wr.cell? (ad.add k) = some (.bool x) := by simpa using hc 0 (.bool x) rfl
        have hb1 := hW.2.1
        have hb2 := hW.2.2
        have ht1 := turnZ_true hb1
        have ht2 := turnZ_false hb1 hb2
        clear hc hx
        cases x with
        | true =>
          go_wp2_with fail
          refine (value_any _ _ _ hW).mono ?_
          rintro e w' ⟨rfl, rfl⟩
          go_wp2_with fail
          refine (turn_any _ _ true _ hW).mono ?_
          rintro e w2 ⟨rfl, hW2, hk2⟩
          have hB3 : Below w.heap.size w w2 := by rw [hk2]; exact hB.setCell hgs _
          have Hk2 := Lib.hid hk2
          clear hk2
          go_wp2
          go_roundw
          case rel => exact ⟨k + 1, _, by omega, by go_num, hW2, hB3⟩
          case measure => simp [intOf]; omega
        | false =>
          go_wp2_with fail
          refine (value_any _ _ _ hW).mono ?_
          rintro e w' ⟨rfl, rfl⟩
          go_wp2_with fail
          refine (turn_any _ _ false _ hW).mono ?_
          rintro e w2 ⟨rfl, hW2, hk2⟩
          have hB3 : Below w.heap.size w w2 := by rw [hk2]; exact hB.setCell hgs _
          have Hk2 := Lib.hid hk2
          clear hk2
          go_wp2
          go_roundw
          case rel => exact ⟨k + 1, _, by omega, by go_num, hW2, hB3⟩
          case measure => simp [intOf]; omega
      · obtain ⟨n0, hn0⟩ : ∃ n0, n0 = n := ⟨_, rfl⟩
        have hit0 : IsW wr w1.heap.size (itT ends 0 n) := hW
        have hb1 := hW.2.1
        have hb2 := hW.2.2
        have hT := itT_true hb1 hb2
        have hF := itT_false hb1 hb2
        have HT := Lib.hid hT
        have HF := Lib.hid hF
        clear hT hF hn0
        go_wp2
        obtain ⟨wo, rfl⟩ : ∃ wo : World, wo = wr := ⟨_, rfl⟩
        go_loopw [40] (fun i wr => ∃ (j : Nat), j ≤ 60 ∧ i = .int .i64 j ∧ IsW wr w1.heap.size (itT ends j n) ∧ Below w.heap.size w wr) (fun i _ => 60 - (intOf i).toNat)
        case atStart => exact ⟨0, by omega, rfl, hit0, hB⟩
        case round =>
          obtain ⟨j, hj, rfl, hWj, hBj⟩ := hrel
          by_cases hjl : j < 60
          · go_wp2_with fail
            refine (turn_any _ _ ends _ hWj).mono ?_
            rintro e w2 ⟨rfl, hW2, hk2⟩
            have hB3 : Below w.heap.size w w2 := by rw [hk2]; exact hBj.setCell hgs _
            have Hk2 := Lib.hid hk2
            clear hk2
            go_wp2
            go_roundw
            case rel => exact ⟨j + 1, by omega, by go_num, hW2, hB3⟩
            case measure => simp [intOf]; omega
          · obtain rfl : j = 60 := by omega
            cases ends with
            | true =>
              rw [HT.out] at hWj
              go_wp2_with fail
              refine (value_any _ _ _ hWj).mono ?_
              rintro e w' ⟨rfl, rfl⟩
              go_wp2_with fail
              refine (of_any _ _ 3 4 _ hWj).mono ?_
              rintro e w' ⟨rfl, rfl⟩
              go_wp2
              go_ret
              exact ⟨rfl, hBj⟩
            | false =>
              rw [HF.out] at hWj
              go_wp2_with fail
              refine (value_any _ _ _ hWj).mono ?_
              rintro e w' ⟨rfl, rfl⟩
              go_wp2_with fail
              refine (of_any _ _ 1 0 _ hWj).mono ?_
              rintro e w' ⟨rfl, rfl⟩
              go_wp2
              go_ret
              exact ⟨rfl, hBj⟩

theorem refTurn_any (n : Int) (good : Bool) (w : World) (h1 : 1 ≤ n) (h2 : n ≤ 1000000) :
    Calls Try.prog 16 #[.int .i64 n, .bool good] w fun e w' => e = .returned (.int .i64 (turnZ n good)) ∧ w = w' := by
  have K : ∀ v, turnZ n good = v → ∀ e, e = Ending.returned (.int .i64 v) → e = .returned (.int .i64 (turnZ n good)) := by
    rintro v rfl e rfl; rfl
  have K := Lib.hid K
  cases good with
  | true =>
    go_enter Try.func16, Try.ntmps16
    go_wp2
    all_goals (go_ret; exact ⟨K.out _ (by unfold turnZ; simp only [if_true]; split <;> omega) _ rfl, rfl⟩)
  | false =>
    go_enter Try.func16, Try.ntmps16
    go_wp2
    all_goals (go_ret; exact ⟨K.out _ (by unfold turnZ; simp only [Bool.false_eq_true, if_false]; split <;> omega) _ rfl, rfl⟩)
theorem refHeld_any (n : Int) (w : World) :
    Calls Try.prog 20 #[.int .i64 n, .int .i64 0, .int .i64 1048576] w fun e w' => e = .returned (.int .i64 (heldZ n 0 1048576)) ∧ w = w' := by
  have K : ∀ v, heldZ n 0 1048576 = v → ∀ e, e = Ending.returned (.int .i64 v) → e = .returned (.int .i64 (heldZ n 0 1048576)) := by
    rintro v rfl e rfl; rfl
  have K := Lib.hid K
  go_enter Try.func20, Try.ntmps20
  go_wp2
  all_goals (go_ret; exact ⟨K.out _ (by unfold heldZ; (repeat' split) <;> omega) _ rfl, rfl⟩)

set_option maxRecDepth 100000 in
set_option maxHeartbeats 1600000 in
theorem weights_walk (a : Option Addr) (cap : Nat) (l : List Bool) (left late : Int) (w : World) (hr : Reads bEnc 1 w a l) :
    Calls Try.prog 4 #[.slice a l.length cap, .int .i64 left, .int .i64 late] w fun e w' => e = .returned (.bool true) ∧ Below w.heap.size w w' := by
  by_cases hlen : 200 < l.length
  · have hd : decide (200 < (l.length : Int)) = true := by simp; omega
    go_enter Try.func4, Try.ntmps4
    go_wp2_with fail
    refine (alive_any _).mono ?_
    rintro e w1 ⟨rfl, hB1⟩
    go_wp2
    go_ret
    exact ⟨rfl, hB1⟩
  · have hd : decide (200 < (l.length : Int)) = false := by simp; omega
    go_enter Try.func4, Try.ntmps4
    go_wp2_with fail
    refine (alive_any _).mono ?_
    rintro e w1 ⟨rfl, hB1⟩
    obtain ⟨hW1, hB2⟩ := IsW.new hB1
    have hgs := hB1.size
    go_wp2
    go_loopw [8, 10, 18] (fun x _ i wr => ∃ (k : Nat) (n : Int), k ≤ l.length ∧ i = .int .i64 k ∧ x = .int .i64 n ∧ IsW wr w1.heap.size n ∧ Below w.heap.size w wr) (fun _ _ i _ => l.length - (intOf i).toNat)
    case atStart => exact ⟨0, 1000, Nat.zero_le _, rfl, rfl, hW1, hB2⟩
    case round =>
      obtain ⟨k, n, hk, rfl, rfl, hW, hB⟩ := hrel
      have hb1 := hW.2.1
      have hb2 := hW.2.2
      by_cases hlt : k < l.length
      · obtain ⟨x, hx⟩ : ∃ x, l[k]? = some x := ⟨_, List.getElem?_eq_getElem hlt⟩
        obtain ⟨ad, rfl, hc⟩ := (hr.below hB) k x hx
        have hc0 : wr.cell? (ad.add k) = some (.bool x) := by simpa using hc 0 (.bool x) rfl
        have htb : 1 ≤ turnZ n x ∧ turnZ n x ≤ 1000000 := by rcases turnZ_bd n x hb1 with h | h; exact h; omega
        obtain ⟨ht1, ht2⟩ := htb
        clear hc hx
        go_wp2_with fail
        refine (refTurn_any n x _ hb1 hb2).mono ?_
        rintro e w' ⟨rfl, rfl⟩
        go_wp2_with fail
        refine (turn_any _ _ x _ hW).mono ?_
        rintro e w2 ⟨rfl, hW2, hk2⟩
        have hB3 : Below w.heap.size w w2 := by rw [hk2]; exact hB.setCell hgs _
        have Hk2 := Lib.hid hk2
        clear hk2
        generalize hv : turnZ n x = v at *
        have Hv := Lib.hid hv
        clear hv
        go_wp2_with fail
        refine (value_any _ _ _ hW2).mono ?_
        rintro e w' ⟨rfl, rfl⟩
        go_wp2
        go_roundw
        case rel => exact ⟨k + 1, v, by omega, by go_num, rfl, hW2, hB3⟩
        case measure => simp [intOf]; omega
      · obtain ⟨a1, a2⟩ := heldZ_bd left
        obtain ⟨b1, b2⟩ := heldZ_bd late
        have hA := refHeld_any left
        have hBq := refHeld_any late
        have hO := of_any _ _ left late _ hW
        generalize heldZ left 0 1048576 = p at *
        generalize heldZ late 0 1048576 = q at *
        have hm : wrap64 (n * (p + q)) = n * (p + q) := by
          have e1 : 0 ≤ n * (p + q) := Int.mul_nonneg (by omega) (by omega)
          have e2 : n * (p + q) ≤ 1000000 * (p + q) := Int.mul_le_mul_of_nonneg_right hb2 (by omega)
          unfold wrap64; omega
        have Hm := Lib.hid hm
        clear hm
        go_wp2_with fail
        refine hO.mono ?_
        rintro e w' ⟨rfl, rfl⟩
        go_wp2_with fail
        refine (hA _).mono ?_
        rintro e w' ⟨rfl, rfl⟩
        go_wp2_with fail
        refine (hBq _).mono ?_
        rintro e w' ⟨rfl, rfl⟩
        go_wp2
        go_ret
        refine ⟨?_, hB⟩
        show Ending.returned (.bool (n * (p + q) == wrap64 (n * (p + q)))) = _
        rw [Hm.out]
        simp
end Go.Proofs.Ytihfnoaannjegaa
