/- file's many, paired, ranged. Written by this session. -/
import Derived.Test.YtdgifgdadminbaaDoorXf
set_option linter.unusedSimpArgs false
set_option linter.unusedVariables false
set_option maxRecDepth 100000
namespace Go.Proofs.YtdgifgdadminbaaDoor
open Go.RowKit Go.Proofs.YtdgifgdadminbaaDoorW.PrintWords Sp
open PFileParses (wrap_id ba_len toList_data info3 info2 info9)

theorem elems_int {w : World} {A : Option Addr} {n : Nat} {xs : List Int} (h : (Kd.int .i64).C w A n xs) : Elems w A (xs.map (Value.int .i64)).length (xs.map (Value.int .i64)) := by
  have hl : xs.length = n := h.1
  refine ⟨rfl, by rw [List.length_map, hl]; exact h.2.1, fun j hj => ?_⟩
  rw [List.length_map] at hj
  obtain ⟨ad, e, hc⟩ := Kd.at_int h (j : Int) (by omega) (by omega)
  refine ⟨ad, e, ?_⟩
  rw [Int.toNat_natCast] at hc
  rw [hc, List.getElem_map]
  unfold rd
  rw [Int.toNat_natCast, List.getD_eq_getElem?_getD, List.getElem?_eq_getElem hj]
  rfl
theorem elems_row {w : World} {A : Option Addr} {n : Nat} {e : Nat} {xs : List (List Int)} (h : (Kd.slice e (Kd.int .i64)).C w A n xs) :
    ∃ vs : List Value, Elems w A vs.length vs ∧ vs.length = xs.length ∧ ∀ j (h1 : j < vs.length) (h2 : j < xs.length), ∃ A' c', vs[j]'h1 = .slice A' (xs[j]'h2).length c' ∧ (xs[j]'h2).length ≤ c' ∧ (Kd.int .i64).C w A' (xs[j]'h2).length (xs[j]'h2) := by
  have hl : xs.length = n := h.1
  have key : ∀ j (h2 : j < xs.length), ∃ v ad, A = some ad ∧ w.cell? (ad.add j) = some v ∧ ∃ A' c', v = .slice A' (xs[j]'h2).length c' ∧ (xs[j]'h2).length ≤ c' ∧ (Kd.int .i64).C w A' (xs[j]'h2).length (xs[j]'h2) := by
    intro j h2
    obtain ⟨ad, ea, hc⟩ := h.2.2 (by omega)
    obtain ⟨c, _, ⟨A', c', rfl, k1, k2⟩, hcell⟩ := hc j _ (List.getElem?_eq_getElem h2)
    have hz := hcell 0 _ rfl
    refine ⟨_, ad, ea, ?_, A', c', rfl, k1, k2⟩
    rw [← hz]
    congr 2
    show j = j * 1 + 0
    omega
  refine ⟨(List.range xs.length).map fun j => if h2 : j < xs.length then (key j h2).choose else undef, ⟨rfl, ?_, ?_⟩, by simp, ?_⟩
  · rw [List.length_map, List.length_range, hl]; exact h.2.1
  · intro j hj
    have h2 : j < xs.length := by simpa using hj
    obtain ⟨ad, ea, hc, _⟩ := (key j h2).choose_spec
    refine ⟨ad, ea, ?_⟩
    rw [hc, List.getElem_map, List.getElem_range, dif_pos h2]
  · intro j h1 h2
    obtain ⟨ad, ea, hc, r⟩ := (key j h2).choose_spec
    rw [List.getElem_map, List.getElem_range, dif_pos h2]
    exact r
theorem range_any {α : Type} (xs : List α) (q : α → Bool) (d : α) : (List.range xs.length).any (fun j => q (xs.getD j d)) = xs.any q := by
  rw [Bool.eq_iff_iff, List.any_eq_true, List.any_eq_true]
  constructor
  · rintro ⟨j, hj, h⟩
    have hj := List.mem_range.1 hj
    rw [List.getD_eq_getElem?_getD, List.getElem?_eq_getElem hj] at h
    exact ⟨_, List.getElem_mem hj, h⟩
  · rintro ⟨x, hx, h⟩
    obtain ⟨j, hj, rfl⟩ := List.getElem_of_mem hx
    refine ⟨j, List.mem_range.2 hj, ?_⟩
    rw [List.getD_eq_getElem?_getD, List.getElem?_eq_getElem hj]
    exact h

theorem out_79 (n : Int) (w : World) : Calls Tryd.prog 79 #[.int .i64 n] w fun e w' => e = .returned (.bool (outB n)) ∧ Below w.heap.size w w' := by
  by_cases h : n < 0
  · have hb : decide (n < 0) = true := decide_eq_true h
    have ho : outB n = true := by unfold outB; rw [hb]; rfl
    rw [ho]
    clear h
    go_enter Tryd.func79, Tryd.ntmps79
    go_wp2_with fail
    go_ret
    exact ⟨rfl, Below.refl _ _⟩
  · have hb : decide (n < 0) = false := decide_eq_false h
    have ho : outB n = decide (1099511627776 < n) := by unfold outB; rw [hb]; rfl
    rw [ho]
    clear h
    go_enter Tryd.func79, Tryd.ntmps79
    go_wp2_with fail
    go_ret
    exact ⟨rfl, Below.refl _ _⟩
theorem out_83 (n : Int) (w : World) : Calls Tryd.prog 83 #[.int .i64 n] w fun e w' => e = .returned (.bool (outB n)) ∧ Below w.heap.size w w' := by
  by_cases h : n < 0
  · have hb : decide (n < 0) = true := decide_eq_true h
    have ho : outB n = true := by unfold outB; rw [hb]; rfl
    rw [ho]
    clear h
    go_enter Tryd.func83, Tryd.ntmps83
    go_wp2_with fail
    go_ret
    exact ⟨rfl, Below.refl _ _⟩
  · have hb : decide (n < 0) = false := decide_eq_false h
    have ho : outB n = decide (1099511627776 < n) := by unfold outB; rw [hb]; rfl
    rw [ho]
    clear h
    go_enter Tryd.func83, Tryd.ntmps83
    go_wp2_with fail
    go_ret
    exact ⟨rfl, Below.refl _ _⟩

theorem pred_int {F : Nat} (hF : ∀ (n : Int) (w : World), Calls Tryd.prog F #[.int .i64 n] w fun e w' => e = .returned (.bool (outB n)) ∧ Below w.heap.size w w') (xs : List Int) (w : World) : PredAt F w (xs.map (Value.int .i64)) (fun j => outB (xs.getD j 0)) := by
  intro j hj w' hb
  have h2 : j < xs.length := by simpa using hj
  rw [List.getElem_map]
  dsimp only
  rw [List.getD_eq_getElem?_getD, List.getElem?_eq_getElem h2]
  exact hF _ _
theorem anyOut_78 (A : Option Addr) (c : Nat) (xs : List Int) (w : World) (hC : (Kd.int .i64).C w A xs.length xs) :
    Calls Tryd.prog 78 #[.slice A xs.length c, .func (.func 79) #[] #[]] w fun e w' => e = .returned (.bool (xs.any outB)) ∧ Below w.heap.size w w' := by
  have h := containsFunc_78 79 A c (xs.map (Value.int .i64)) (fun j => outB (xs.getD j 0)) w (elems_int hC) enters_79 (pred_int out_79 xs w)
  rw [List.length_map, range_any xs outB 0] at h
  exact h
theorem anyOut_82 (A : Option Addr) (c : Nat) (xs : List Int) (w : World) (hC : (Kd.int .i64).C w A xs.length xs) :
    Calls Tryd.prog 82 #[.slice A xs.length c, .func (.func 83) #[] #[]] w fun e w' => e = .returned (.bool (xs.any outB)) ∧ Below w.heap.size w w' := by
  have h := containsFunc_82 83 A c (xs.map (Value.int .i64)) (fun j => outB (xs.getD j 0)) w (elems_int hC) enters_83 (pred_int out_83 xs w)
  rw [List.length_map, range_any xs outB 0] at h
  exact h
theorem row_77 (A : Option Addr) (c : Nat) (xs : List Int) (w : World) (hC : (Kd.int .i64).C w A xs.length xs) :
    Calls Tryd.prog 77 #[.slice A xs.length c] w fun e w' => e = .returned (.bool (xs.any outB)) ∧ Below w.heap.size w w' := by
  have H := Lib.hid (anyOut_78 A c xs w hC)
  clear hC
  go_enter Tryd.func77, Tryd.ntmps77
  go_wp2_with fail
  refine H.out.mono ?_
  rintro e w' ⟨rfl, hB⟩
  have HB := Lib.hid hB
  clear hB
  go_wp2_with fail
  go_ret
  exact ⟨rfl, HB.out⟩
theorem row_81 (A : Option Addr) (c : Nat) (xs : List Int) (w : World) (hC : (Kd.int .i64).C w A xs.length xs) :
    Calls Tryd.prog 81 #[.slice A xs.length c] w fun e w' => e = .returned (.bool (xs.any outB)) ∧ Below w.heap.size w w' := by
  have H := Lib.hid (anyOut_82 A c xs w hC)
  clear hC
  go_enter Tryd.func81, Tryd.ntmps81
  go_wp2_with fail
  refine H.out.mono ?_
  rintro e w' ⟨rfl, hB⟩
  have HB := Lib.hid hB
  clear hB
  go_wp2_with fail
  go_ret
  exact ⟨rfl, HB.out⟩
def longB (r : List Int) : Bool := decide (4096 < r.length)
theorem row_76 (A : Option Addr) (c : Nat) (xs : List Int) (w : World) (hl : xs.length ≤ 9223372036854775807) :
    Calls Tryd.prog 76 #[.slice A xs.length c] w fun e w' => e = .returned (.bool (longB xs)) ∧ Below w.heap.size w w' := by
  have hd : longB xs = decide ((4096 : Int) < (xs.length : Int)) := by
    unfold longB
    rw [decide_eq_decide]
    omega
  rw [hd]
  clear hd
  go_enter Tryd.func76, Tryd.ntmps76
  go_wp2_with fail
  go_ret
  exact ⟨rfl, Below.refl _ _⟩
theorem anyRow {f F e : Nat} (q : List Int → Bool) (hf : ∀ (A : Option Addr) (c : Nat) (vs : List Value) (p : Nat → Bool) (w : World), Elems w A vs.length vs → PredAt F w vs p →
      Calls Tryd.prog f #[.slice A vs.length c, .func (.func F) #[] #[]] w fun e w' => e = .returned (.bool ((List.range vs.length).any p)) ∧ Below w.heap.size w w')
    (hF : ∀ (A : Option Addr) (c : Nat) (xs : List Int) (w : World), (Kd.int .i64).C w A xs.length xs → Calls Tryd.prog F #[.slice A xs.length c] w fun e w' => e = .returned (.bool (q xs)) ∧ Below w.heap.size w w')
    (A : Option Addr) (c : Nat) (xs : List (List Int)) (w : World) (hC : (Kd.slice e (Kd.int .i64)).C w A xs.length xs) :
    Calls Tryd.prog f #[.slice A xs.length c, .func (.func F) #[] #[]] w fun e w' => e = .returned (.bool (xs.any q)) ∧ Below w.heap.size w w' := by
  obtain ⟨vs, hE, hl, hv⟩ := elems_row hC
  have h := hf A c vs (fun j => q (xs.getD j [])) w hE (by
    intro j hj w' hb
    have h2 : j < xs.length := by omega
    obtain ⟨A', c', e1, _, e3⟩ := hv j hj h2
    rw [e1]
    dsimp only
    rw [List.getD_eq_getElem?_getD, List.getElem?_eq_getElem h2]
    exact hF A' c' _ w' (Kd.C_below e3 hb))
  rw [hl, range_any xs q []] at h
  exact h
theorem anyLong_75 (A : Option Addr) (c : Nat) (xs : List (List Int)) (w : World) (hC : kRow.C w A xs.length xs) :
    Calls Tryd.prog 75 #[.slice A xs.length c, .func (.func 76) #[] #[]] w fun e w' => e = .returned (.bool (xs.any longB)) ∧ Below w.heap.size w w' :=
  anyRow longB (fun A c vs p w hE hP => containsFunc_75 76 A c vs p w hE enters_76 hP) (fun A c xs w hC => row_76 A c xs w hC.2.1) A c xs w hC
theorem anyOut_75 (A : Option Addr) (c : Nat) (xs : List (List Int)) (w : World) (hC : kRow.C w A xs.length xs) :
    Calls Tryd.prog 75 #[.slice A xs.length c, .func (.func 77) #[] #[]] w fun e w' => e = .returned (.bool (xs.any fun r => r.any outB)) ∧ Below w.heap.size w w' :=
  anyRow (fun r => r.any outB) (fun A c vs p w hE hP => containsFunc_75 77 A c vs p w hE enters_77 hP) row_77 A c xs w hC
theorem anyOut_80 (A : Option Addr) (c : Nat) (xs : List (List Int)) (w : World) (hC : kTim.C w A xs.length xs) :
    Calls Tryd.prog 80 #[.slice A xs.length c, .func (.func 81) #[] #[]] w fun e w' => e = .returned (.bool (xs.any fun r => r.any outB)) ∧ Below w.heap.size w w' :=
  anyRow (fun r => r.any outB) (fun A c vs p w hE hP => containsFunc_80 81 A c vs p w hE enters_81 hP) row_81 A c xs w hC
end Go.Proofs.YtdgifgdadminbaaDoor
