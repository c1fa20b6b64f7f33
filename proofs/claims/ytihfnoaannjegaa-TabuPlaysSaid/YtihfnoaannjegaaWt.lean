/- What the weight's methods do, and that the document's example answers true, in whatever memory. No condition. -/
import Derived.Test.YtihfnoaannjegaaFb
namespace Go.Proofs.Ytihfnoaannjegaa
open Go.RowKit Go.Maps Go.MapKept

/-- The weight n at block g. -/
def IsW (w : World) (g : Nat) (n : Int) : Prop := w.heap[g]? = some (.cells #[.int .i64 (n - 1000)] 39 (0, 0)) ∧ 1 ≤ n ∧ n ≤ 1000000
theorem IsW.cell {w : World} {g : Nat} {n : Int} (h : IsW w g n) : w.cell? ⟨g, 0, none⟩ = some (.int .i64 (n - 1000)) := by simp [World.cell?, h.1]
theorem IsW.frozen {w : World} {g : Nat} {n : Int} (h : IsW w g n) : w.frozen? ⟨g, 0, none⟩ = false := by simp [World.frozen?, h.1]
theorem IsW.lt {w : World} {g : Nat} {n : Int} (h : IsW w g n) : g < w.heap.size := (Array.getElem?_eq_some_iff.1 h.1).1
/-- The weight behind a turn. -/
def turnZ (n : Int) (good : Bool) : Int := if good then (if n * 2 / 3 < 1 then 1 else n * 2 / 3) else (if 1000000 < n * 3 / 2 + 1 then 1000000 else n * 3 / 2 + 1)
theorem turnZ_bd (n : Int) (good : Bool) (h1 : 1 ≤ n) : 1 ≤ turnZ n good ∧ turnZ n good ≤ 1000000 ∨ 1000000 < n := by
  unfold turnZ; cases good <;> simp <;> split <;> omega
theorem IsW.set {w : World} {g : Nat} {n : Int} (h : IsW w g n) {v : Int} (h1 : 1 ≤ v) (h2 : v ≤ 1000000) : IsW (w.setCell ⟨g, 0, none⟩ (.int .i64 (v - 1000))) g v :=
  ⟨by simp [World.setCell, Array.getElem?_modify, h.1], h1, h2⟩

theorem value_any (g : Nat) (n : Int) (w : World) (h : IsW w g n) :
    Calls Try.prog 18 #[.pointer (some ⟨g, 0, none⟩)] w fun e w' => e = .returned (.int .i64 n) ∧ w = w' := by
  have hc := h.cell
  have h1 := h.2.1
  have h2 := h.2.2
  have e1 : wrap64 (1000 + (n - 1000)) = n := by unfold wrap64; omega
  have E1 := Lib.hid e1
  clear e1
  go_enter Try.func18, Try.ntmps18
  go_wp2
  go_ret
  exact ⟨by rw [show (1000 + (n - 1000)) = n by omega]; rfl, rfl⟩
theorem turn_any (g : Nat) (n : Int) (good : Bool) (w : World) (h : IsW w g n) :
    Calls Try.prog 17 #[.pointer (some ⟨g, 0, none⟩), .bool good] w fun e w' => e = .returned (.int .i64 (turnZ n good)) ∧ IsW w' g (turnZ n good) ∧ w' = w.setCell ⟨g, 0, none⟩ (.int .i64 (turnZ n good - 1000)) := by
  have hc := h.cell
  have hf := h.frozen
  have h1 := h.2.1
  have h2 := h.2.2
  have key : ∀ v, turnZ n good = v → 1 ≤ v → v ≤ 1000000 → ∀ e, e = Ending.returned (.int .i64 v) → e = .returned (.int .i64 (turnZ n good)) ∧ IsW (w.setCell ⟨g, 0, none⟩ (.int .i64 (v - 1000))) g (turnZ n good) ∧ w.setCell ⟨g, 0, none⟩ (.int .i64 (v - 1000)) = w.setCell ⟨g, 0, none⟩ (.int .i64 (turnZ n good - 1000)) := by
    rintro v rfl a b e rfl
    exact ⟨rfl, h.set a b, rfl⟩
  have K := Lib.hid key
  clear key
  cases good with
  | true =>
    go_enter Try.func17, Try.ntmps17
    go_wp2_with (go_at_call 18; refine (value_any g n _ h).mono ?_; rintro e w' ⟨rfl, rfl⟩)
    · go_ret
      have hh : n * 2 / 3 < 1 := by assumption
      exact K.out 1 (by simp [turnZ, hh]) (by omega) (by omega) _ rfl
    · go_ret
      have hh : 1 ≤ n * 2 / 3 := by assumption
      exact K.out (n * 2 / 3) (by simp [turnZ]; omega) (by omega) (by omega) _ rfl
  | false =>
    go_enter Try.func17, Try.ntmps17
    go_wp2_with (go_at_call 18; refine (value_any g n _ h).mono ?_; rintro e w' ⟨rfl, rfl⟩)
    · go_ret
      have hh : 1000000 < n * 3 / 2 + 1 := by assumption
      exact K.out 1000000 (by simp [turnZ]; omega) (by omega) (by omega) _ rfl
    · go_ret
      have hh : n * 3 / 2 + 1 ≤ 1000000 := by assumption
      exact K.out (n * 3 / 2 + 1) (by simp [turnZ]; omega) (by omega) (by omega) _ rfl

/-- A number held within bounds. -/
def heldZ (n low high : Int) : Int := if (if high < n then high else n) < low then low else (if high < n then high else n)
theorem held_any (n low high : Int) (w : World) :
    Calls Try.prog 23 #[.int .i64 n, .int .i64 low, .int .i64 high] w fun e w' => e = .returned (.int .i64 (heldZ n low high)) ∧ w = w' := by
  have K : ∀ v, heldZ n low high = v → ∀ e, e = Ending.returned (.int .i64 v) → e = .returned (.int .i64 (heldZ n low high)) := by
    rintro v rfl e rfl; rfl
  go_enter Try.func23, Try.ntmps23
  go_wp2
  all_goals (go_ret; exact ⟨K _ (by unfold heldZ; (repeat' split) <;> omega) _ rfl, rfl⟩)
theorem heldZ_bd (n : Int) : 0 ≤ heldZ n 0 1048576 ∧ heldZ n 0 1048576 ≤ 1048576 := by
  unfold heldZ; (repeat' split) <;> omega
theorem of_any (g : Nat) (n left late : Int) (w : World) (h : IsW w g n) :
    Calls Try.prog 19 #[.pointer (some ⟨g, 0, none⟩), .int .i64 left, .int .i64 late] w fun e w' => e = .returned (.int .i64 (n * (heldZ left 0 1048576 + heldZ late 0 1048576))) ∧ w = w' := by
  obtain ⟨a1, a2⟩ := heldZ_bd left
  obtain ⟨b1, b2⟩ := heldZ_bd late
  have hA := held_any left 0 1048576
  have hB := held_any late 0 1048576
  generalize heldZ left 0 1048576 = x at *
  generalize heldZ late 0 1048576 = y at *
  have h1 := h.2.1
  have h2 := h.2.2
  have hm : wrap64 (n * (x + y)) = n * (x + y) := by
    have e1 : 0 ≤ n * (x + y) := Int.mul_nonneg (by omega) (by omega)
    have e2 : n * (x + y) ≤ 1000000 * (x + y) := Int.mul_le_mul_of_nonneg_right h2 (by omega)
    unfold wrap64; omega
  have Hm := Lib.hid hm
  clear hm
  go_enter Try.func19, Try.ntmps19
  go_wp2_with fail
  refine (value_any g n _ h).mono ?_
  rintro e w' ⟨rfl, rfl⟩
  go_wp2_with fail
  refine (hA _).mono ?_
  rintro e w' ⟨rfl, rfl⟩
  go_wp2_with fail
  refine (hB _).mono ?_
  rintro e w' ⟨rfl, rfl⟩
  go_wp2
  go_ret
  exact ⟨by show Ending.returned (.int .i64 (wrap64 (n * (x + y)))) = _; rw [Hm.out], rfl⟩

/-! ### the methods at whatever map -/
theorem count_any (g : Nat) (m : Option Nat) (L : List Ent) (now : Int) (w : World) (h : IsT w g m L) (hL : L.length ≤ 1000000) :
    Calls Try.prog 15 #[.pointer (some ⟨g, 0, none⟩), .int .i64 now] w fun e w' => e = .returned (.int .i64 (liveN L now)) ∧ Below w.heap.size w w' := by
  cases m with
  | none => obtain rfl := h.2.1 rfl; exact count_nil g now w h
  | some b => exact count_some g b L now w h hL
theorem sweep_any (g : Nat) (m : Option Nat) (L : List Ent) (now : Int) (w : World) (h : IsT w g m L) (hL : L.length ≤ 1000000) :
    Calls Try.prog 11 #[.pointer (some ⟨g, 0, none⟩), .int .i64 now] w fun e w' => e = .returned (.int .i64 (L.length - liveN L now)) ∧ (∃ L', IsT w' g m L' ∧ L'.Perm (liveL L now)) ∧ Keep w w' g m := by
  cases m with
  | none => obtain rfl := h.2.1 rfl; exact (sweep_nil g now w h).mono fun _ _ ⟨he, hi, hb⟩ => ⟨he, ⟨[], hi, List.Perm.refl _⟩, Keep.of_below hb⟩
  | some b => exact (sweep_some g b L now w h hL).mono fun _ _ ⟨he, hi, hg⟩ => ⟨he, hi, ⟨hg.os, hg.tape, hg.output, hg.size, fun i hi _ hne => hg.block i hi hne⟩⟩
theorem forbid_any (g : Nat) (m : Option Nat) (L : List Ent) (q t u : Int) (w : World) (h : IsT w g m L) (hq : I64 q) (ht : I64 t) (hu : I64 u) :
    Calls Try.prog 9 #[.pointer (some ⟨g, 0, none⟩), .int .i64 q, .int .i64 t, .int .i64 u] w fun e w' => e = .returned (.tuple #[]) ∧ ForbidPost g m L (q, t) u w w' := by
  cases m with
  | none => obtain rfl := h.2.1 rfl; exact forbid_none g q t u w h hq ht hu
  | some b => exact forbid_some g b L q t u w h hq ht hu

/-- What was there keeps, where no block below base is turned. -/
theorem Keep.below {w w' : World} {g : Nat} {m : Option Nat} {B : Nat} (h : Keep w w' g m) (hB : B ≤ w.heap.size) (hg : B ≤ g) (hm : ∀ b, m = some b → B ≤ b) : Below B w w' :=
  ⟨h.os, h.tape, h.output, h.size, fun i hi => h.block i (by omega) (by omega) (fun e => by have := hm i e.symm; omega)⟩
theorem putMax_nil {k : Int × Int} {u : Int} {L' : List Ent} (h : PutMax [] k u L') : L' = [(k, u)] := by
  rcases h with ⟨_, h, _⟩ | ⟨⟨j, u0, h, _⟩ | ⟨_, h⟩, _⟩
  · simp at h
  · simp at h
  · simpa using h
theorem perm_nil' {L : List Ent} (h : L.Perm []) : L = [] := List.Perm.eq_nil h
theorem liveL_self {L L' : List Ent} {now : Int} (h : L'.Perm (liveL L now)) (he : liveL L now = []) : L' = [] := List.Perm.eq_nil (he ▸ h)

theorem Keep.isW {w w' : World} {g g' : Nat} {m : Option Nat} {n : Int} (h : Keep w w' g m) (hw : IsW w g' n) (hne : g' ≠ g) (hm : ∀ b, m = some b → ∃ L, TabAt w b L) : IsW w' g' n := by
  refine ⟨(h.block g' hw.lt hne ?_).trans hw.1, hw.2⟩
  intro e
  obtain ⟨L, es, clock, hb, _⟩ := hm g' e.symm
  rw [hw.1] at hb
  cases hb
theorem IsT.tab {w : World} {g : Nat} {m : Option Nat} {L : List Ent} (h : IsT w g m L) : ∀ b, m = some b → ∃ L, TabAt w b L := fun b hb => ⟨L, h.2.2 b hb⟩
theorem IsW.below {w w' : World} {g : Nat} {n : Int} (h : IsW w g n) (hB : Below w.heap.size w w') : IsW w' g n := ⟨(hB.block g h.lt).trans h.1, h.2⟩
theorem IsT.setCell {w : World} {g g' : Nat} {m : Option Nat} {L : List Ent} (h : IsT w g m L) {n : Int} (hw : IsW w g' n) (v : Value) : IsT (w.setCell ⟨g', 0, none⟩ v) g m L := by
  refine h.of_block (Below.heap_setCell _ _ _ _ ?_) (fun b hb => Below.heap_setCell _ _ _ _ ?_)
  · intro e
    have := hw.1
    simp only at e
    rw [← e, h.1] at this
    simp at this
  · intro e
    obtain ⟨es, clock, hb', _⟩ := h.2.2 b hb
    simp only at e
    rw [e, hw.1] at hb'
    cases hb'
theorem Below.toB {B : Nat} {w w1 w2 : World} (h : Below B w w1) (h2 : Below w1.heap.size w1 w2) (hB : B ≤ w.heap.size) : Below B w w2 := h.trans (h2.mono (Nat.le_trans hB h.size))

set_option maxRecDepth 100000 in
set_option maxHeartbeats 1600000 in
/-- THE EXAMPLE. -/
theorem alive_any (w : World) : Calls Try.prog 8 #[] w fun e w' => e = .returned (.bool true) ∧ Below w.heap.size w w' := by
  have hsz : (w.alloc (.cells #[.map none] 26)).heap.size = w.heap.size + 1 := by simp
  have hT0 : IsT ((w.alloc (.cells #[.map none] 26)).alloc (.cells #[.int .i64 0] 39)) w.heap.size none [] :=
    ⟨(Below.heap_alloc _ _ _ (by omega)).trans (MapKept.heap_alloc w _).1, fun _ => rfl, by simp⟩
  have hW0 : IsW ((w.alloc (.cells #[.map none] 26)).alloc (.cells #[.int .i64 0] 39)) (w.heap.size + 1) 1000 := by
    refine ⟨?_, by omega, by omega⟩
    have := (MapKept.heap_alloc (w.alloc (.cells #[.map none] 26)) (.cells #[.int .i64 0] 39)).1
    rw [hsz] at this
    exact this
  have hB0 : Below w.heap.size w ((w.alloc (.cells #[.map none] 26)).alloc (.cells #[.int .i64 0] 39)) := ((Below.refl _ _).alloc (Nat.le_refl _) _).alloc (by simp) _
  clear hsz
  generalize hw0 : (w.alloc (.cells #[.map none] 26)).alloc (.cells #[.int .i64 0] 39) = w0 at *
  have Hw0 := Lib.hid hw0
  clear hw0
  go_enter Try.func8, Try.ntmps8
  go_wp2_with fail
  rw [Hw0.out]
  refine (sweep_any w.heap.size none [] 3 _ hT0 (by simp)).mono ?_
  rintro e w1 ⟨rfl, ⟨L1, hT1, hp1⟩, hk1⟩
  obtain rfl := hT1.2.1 rfl
  have hW1 := hk1.isW hW0 (by omega) hT0.tab
  have hB1 : Below w.heap.size w w1 := hB0.trans (hk1.below hB0.size (Nat.le_refl _) (by simp))
  clear hT0 hW0 hB0 hk1 hp1 Hw0
  go_wp2_with fail
  refine (forbid_any w.heap.size none [] 1 0 5 _ hT1 (by constructor <;> omega) (by constructor <;> omega) (by constructor <;> omega)).mono ?_
  rintro e w2 ⟨rfl, m2, L2, hT2, hp2, hm2, hk2⟩
  obtain rfl := putMax_nil hp2
  have hm2' : ∀ b, m2 = some b → w.heap.size ≤ b := by
    rintro b rfl
    rcases hm2 with h | ⟨_, b', h, hb⟩
    · cases h
    · cases h; exact Nat.le_trans hB1.size hb
  have hW2 := hk2.isW hW1 (by omega) hT1.tab
  have hB2 : Below w.heap.size w w2 := hB1.trans (hk2.below hB1.size (Nat.le_refl _) (by simp))
  clear hT1 hW1 hB1 hk2 hp2 hm2
  go_wp2_with fail
  refine (is_any w.heap.size m2 _ 1 0 4 _ hT2 (by constructor <;> omega) (by constructor <;> omega)).mono ?_
  rintro e w' ⟨rfl, rfl⟩
  go_wp2_with fail
  refine (is_any w.heap.size m2 _ 1 0 5 _ hT2 (by constructor <;> omega) (by constructor <;> omega)).mono ?_
  rintro e w' ⟨rfl, rfl⟩
  go_wp2_with fail
  refine (count_any w.heap.size m2 _ 4 _ hT2 (by simp)).mono ?_
  rintro e w3 ⟨rfl, hb3⟩
  have hT3 := hT2.below hb3
  have hW3 := hW2.below hb3
  have hB3 : Below w.heap.size w w3 := Below.toB hB2 hb3 (Nat.le_refl _)
  clear hT2 hW2 hB2 hb3
  go_wp2_with fail
  refine (sweep_any w.heap.size m2 _ 5 _ hT3 (by simp)).mono ?_
  rintro e w4 ⟨rfl, ⟨L4, hT4, hp4⟩, hk4⟩
  obtain rfl : L4 = [] := liveL_self hp4 (by decide)
  have hW4 := hk4.isW hW3 (by omega) hT3.tab
  have hB4 : Below w.heap.size w w4 := hB3.trans (hk4.below hB3.size (Nat.le_refl _) hm2')
  clear hT3 hW3 hB3 hk4 hp4
  go_wp2_with fail
  refine (value_any _ _ _ hW4).mono ?_
  rintro e w' ⟨rfl, rfl⟩
  go_wp2_with fail
  refine (turn_any _ _ true _ hW4).mono ?_
  rintro e w5 ⟨rfl, hW5, hk5⟩
  have hT5 : IsT w5 w.heap.size m2 [] := by rw [hk5]; exact hT4.setCell hW4 _
  have hB5 : Below w.heap.size w w5 := by rw [hk5]; exact hB4.setCell (by simp) _
  clear hk5 hT4 hB4 hW4
  go_wp2_with fail
  refine (turn_any _ _ false _ hW5).mono ?_
  rintro e w6 ⟨rfl, hW6, hk6⟩
  have hT6 : IsT w6 w.heap.size m2 [] := by rw [hk6]; exact hT5.setCell hW5 _
  have hB6 : Below w.heap.size w w6 := by rw [hk6]; exact hB5.setCell (by simp) _
  clear hk6 hT5 hB5 hW5
  go_wp2_with fail
  refine (count_any w.heap.size m2 _ 0 _ hT6 (by simp)).mono ?_
  rintro e w7 ⟨rfl, hb7⟩
  have hW7 := hW6.below hb7
  have hB7 : Below w.heap.size w w7 := Below.toB hB6 hb7 (Nat.le_refl _)
  go_wp2_with fail
  refine (of_any _ _ 2 (-1) _ hW7).mono ?_
  rintro e w' ⟨rfl, rfl⟩
  go_wp2
  go_ret
  exact ⟨rfl, hB7⟩
end Go.Proofs.Ytihfnoaannjegaa
