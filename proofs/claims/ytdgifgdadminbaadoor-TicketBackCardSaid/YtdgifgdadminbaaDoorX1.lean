/- Several texts of this session in one (Xf, Xp, Xm). Written by this session, by tools of this session and by the kit's print. -/
import Derived.Test.YtdgifgdadminbaaDoorRq
/-! ### Xf -/
set_option linter.unusedSimpArgs false
set_option linter.unusedVariables false
set_option maxRecDepth 100000
namespace Go.Proofs.YtdgifgdadminbaaDoor
open Go.RowKit Go.Proofs.YtdgifgdadminbaaDoorW.PrintWords Sp
open PFileParses (wrap_id ba_len toList_data info3 info2 info9)

/-- A row of cells. -/
structure Elems (w : World) (A : Option Addr) (n : Nat) (vs : List Value) : Prop where
  len : vs.length = n
  small : n ≤ 9223372036854775807
  at_ : ∀ j (h : j < vs.length), ∃ ad, A = some ad ∧ w.cell? (ad.add j) = some (vs[j]'h)
theorem Elems.below {w w' : World} {A : Option Addr} {n : Nat} {vs : List Value} (h : Elems w A n vs) (hb : Below w.heap.size w w') : Elems w' A n vs :=
  ⟨h.len, h.small, fun j hj => by
    obtain ⟨ad, e, hc⟩ := h.at_ j hj
    exact ⟨ad, e, cell_below hc hb⟩⟩
/-- F is a function with a body. -/
def Enters (F : Nat) : Prop := ∀ (args : Array Value) (w : World), (callFunc F args).run Tryd.prog w = .ok (.enter F args) w
/-- A function value that answers p j at the j-th cell. -/
def PredAt (F : Nat) (w : World) (vs : List Value) (p : Nat → Bool) : Prop :=
  ∀ j (h : j < vs.length) (w' : World), Below w.heap.size w w' → Calls Tryd.prog F #[vs[j]'h] w' fun e w'' => e = .returned (.bool (p j)) ∧ Below w'.heap.size w' w''
def Found (n : Nat) (p : Nat → Bool) (w : World) (e : Ending) (w' : World) : Prop := ∃ i : Int, e = .returned (.int .i64 i) ∧ decide (0 ≤ i) = (List.range n).any p ∧ Below w.heap.size w w'
theorem enters_of {F : Nat} {fn : Func} {c : Code} (hf : Tryd.prog.funcs[F]? = some fn) (hname : (fn.name == "runtime.NumGoroutine") = false) (hb : fn.body = some c) : Enters F := fun args w => by
  have hn : ¬ fn.name = "runtime.NumGoroutine" := by simpa using hname
  simp [callFunc, hf, hn, hb, go_sem]
theorem enters_79 : Enters 79 := enters_of Tryd.func79 (by kernel_rfl) rfl
theorem enters_83 : Enters 83 := enters_of Tryd.func83 (by kernel_rfl) rfl
theorem enters_76 : Enters 76 := enters_of Tryd.func76 (by kernel_rfl) rfl
theorem enters_77 : Enters 77 := enters_of Tryd.func77 (by kernel_rfl) rfl
theorem enters_81 : Enters 81 := enters_of Tryd.func81 (by kernel_rfl) rfl
theorem any_hit {n k : Nat} {p : Nat → Bool} (hk : k < n) (h : p k = true) : (List.range n).any p = true := List.any_eq_true.2 ⟨k, List.mem_range.2 hk, h⟩
theorem any_none {n : Nat} {p : Nat → Bool} (h : ∀ j, j < n → p j = false) : (List.range n).any p = false := by
  rw [List.any_eq_false]
  intro j hj
  rw [h j (List.mem_range.1 hj)]
  exact Bool.false_ne_true

set_option maxHeartbeats 1000000 in
theorem indexFunc_107 (F : Nat) (A : Option Addr) (c : Nat) (vs : List Value) (p : Nat → Bool) (w : World) (hE : Elems w A vs.length vs) (hF : Enters F) (hP : PredAt F w vs p) :
    Calls Tryd.prog 107 #[.slice A vs.length c, .func (.func F) #[] #[]] w fun e w' => Found vs.length p w e w' := by
  have hsm := hE.small
  have HE := Lib.hid hE
  have HP := Lib.hid hP
  clear hE hP
  go_enter Tryd.func107, Tryd.ntmps107
  go_wp2_with fail
  go_loopw [5, 8] (fun _ i wr => ∃ k : Nat, k ≤ vs.length ∧ i = .int .i64 k ∧ (∀ j, j < k → p j = false) ∧ Below w.heap.size w wr) (fun _ i _ => vs.length - (intOf i).toNat)
  case atStart => exact ⟨0, Nat.zero_le _, rfl, fun j hj => absurd hj (Nat.not_lt_zero _), Below.refl _ _⟩
  case round =>
    obtain ⟨k, hk, rfl, hno, hB⟩ := hrel
    have HN := Lib.hid hno
    have HB := Lib.hid hB
    clear hno hB
    by_cases hlt : k < vs.length
    · obtain ⟨ad, rfl, hc⟩ := (HE.out.below HB.out).at_ k hlt
      obtain ⟨v, hv⟩ : ∃ v, v = vs[k]'hlt := ⟨_, rfl⟩
      rw [← hv] at hc
      have hC := HP.out k hlt wr HB.out
      rw [← hv] at hC
      obtain ⟨b, hb⟩ : ∃ b, p k = b := ⟨_, rfl⟩
      rw [hb] at hC
      have HC := Lib.hid hC
      have HBK := Lib.hid hb
      clear hC hv hb
      have hf := hF #[v]
      go_wp2_with fail
      refine HC.out.mono ?_
      rintro e w2 ⟨rfl, hb2⟩
      have HB2 := Lib.hid (HB.out.trans (hb2.mono HB.out.size))
      clear hb2 hc hf
      cases b
      · go_wp2_with fail
        go_roundw
        case rel =>
          refine ⟨k + 1, by omega, by go_num, fun j hj => ?_, HB2.out⟩
          by_cases hjk : j < k
          · exact HN.out j hjk
          · have : j = k := by omega
            rw [this]
            exact HBK.out
        case measure => simp [intOf]; omega
      · go_wp2_with fail
        go_ret
        exact ⟨k, rfl, by rw [any_hit hlt HBK.out, decide_eq_true (by omega)], HB2.out⟩
    · go_wp2_with fail
      go_ret
      have hkn : k = vs.length := by omega
      exact ⟨-1, rfl, by rw [any_none (fun j hj => HN.out j (by omega))]; rfl, HB.out⟩
theorem containsFunc_75 (F : Nat) (A : Option Addr) (c : Nat) (vs : List Value) (p : Nat → Bool) (w : World) (hE : Elems w A vs.length vs) (hF : Enters F) (hP : PredAt F w vs p) :
    Calls Tryd.prog 75 #[.slice A vs.length c, .func (.func F) #[] #[]] w fun e w' => e = .returned (.bool ((List.range vs.length).any p)) ∧ Below w.heap.size w w' := by
  have H := Lib.hid (indexFunc_107 F A c vs p w hE hF hP)
  clear hE hF hP
  go_enter Tryd.func75, Tryd.ntmps75
  go_wp2_with fail
  refine H.out.mono ?_
  rintro e w' ⟨i, rfl, hi, hB⟩
  have HI := Lib.hid hi
  have HB := Lib.hid hB
  clear hi hB
  go_wp2_with fail
  go_ret
  rw [← HI.out]
  exact ⟨rfl, HB.out⟩

set_option maxHeartbeats 1000000 in
theorem indexFunc_108 (F : Nat) (A : Option Addr) (c : Nat) (vs : List Value) (p : Nat → Bool) (w : World) (hE : Elems w A vs.length vs) (hF : Enters F) (hP : PredAt F w vs p) :
    Calls Tryd.prog 108 #[.slice A vs.length c, .func (.func F) #[] #[]] w fun e w' => Found vs.length p w e w' := by
  have hsm := hE.small
  have HE := Lib.hid hE
  have HP := Lib.hid hP
  clear hE hP
  go_enter Tryd.func108, Tryd.ntmps108
  go_wp2_with fail
  go_loopw [5, 8] (fun _ i wr => ∃ k : Nat, k ≤ vs.length ∧ i = .int .i64 k ∧ (∀ j, j < k → p j = false) ∧ Below w.heap.size w wr) (fun _ i _ => vs.length - (intOf i).toNat)
  case atStart => exact ⟨0, Nat.zero_le _, rfl, fun j hj => absurd hj (Nat.not_lt_zero _), Below.refl _ _⟩
  case round =>
    obtain ⟨k, hk, rfl, hno, hB⟩ := hrel
    have HN := Lib.hid hno
    have HB := Lib.hid hB
    clear hno hB
    by_cases hlt : k < vs.length
    · obtain ⟨ad, rfl, hc⟩ := (HE.out.below HB.out).at_ k hlt
      obtain ⟨v, hv⟩ : ∃ v, v = vs[k]'hlt := ⟨_, rfl⟩
      rw [← hv] at hc
      have hC := HP.out k hlt wr HB.out
      rw [← hv] at hC
      obtain ⟨b, hb⟩ : ∃ b, p k = b := ⟨_, rfl⟩
      rw [hb] at hC
      have HC := Lib.hid hC
      have HBK := Lib.hid hb
      clear hC hv hb
      have hf := hF #[v]
      go_wp2_with fail
      refine HC.out.mono ?_
      rintro e w2 ⟨rfl, hb2⟩
      have HB2 := Lib.hid (HB.out.trans (hb2.mono HB.out.size))
      clear hb2 hc hf
      cases b
      · go_wp2_with fail
        go_roundw
        case rel =>
          refine ⟨k + 1, by omega, by go_num, fun j hj => ?_, HB2.out⟩
          by_cases hjk : j < k
          · exact HN.out j hjk
          · have : j = k := by omega
            rw [this]
            exact HBK.out
        case measure => simp [intOf]; omega
      · go_wp2_with fail
        go_ret
        exact ⟨k, rfl, by rw [any_hit hlt HBK.out, decide_eq_true (by omega)], HB2.out⟩
    · go_wp2_with fail
      go_ret
      have hkn : k = vs.length := by omega
      exact ⟨-1, rfl, by rw [any_none (fun j hj => HN.out j (by omega))]; rfl, HB.out⟩
theorem containsFunc_78 (F : Nat) (A : Option Addr) (c : Nat) (vs : List Value) (p : Nat → Bool) (w : World) (hE : Elems w A vs.length vs) (hF : Enters F) (hP : PredAt F w vs p) :
    Calls Tryd.prog 78 #[.slice A vs.length c, .func (.func F) #[] #[]] w fun e w' => e = .returned (.bool ((List.range vs.length).any p)) ∧ Below w.heap.size w w' := by
  have H := Lib.hid (indexFunc_108 F A c vs p w hE hF hP)
  clear hE hF hP
  go_enter Tryd.func78, Tryd.ntmps78
  go_wp2_with fail
  refine H.out.mono ?_
  rintro e w' ⟨i, rfl, hi, hB⟩
  have HI := Lib.hid hi
  have HB := Lib.hid hB
  clear hi hB
  go_wp2_with fail
  go_ret
  rw [← HI.out]
  exact ⟨rfl, HB.out⟩

set_option maxHeartbeats 1000000 in
theorem indexFunc_109 (F : Nat) (A : Option Addr) (c : Nat) (vs : List Value) (p : Nat → Bool) (w : World) (hE : Elems w A vs.length vs) (hF : Enters F) (hP : PredAt F w vs p) :
    Calls Tryd.prog 109 #[.slice A vs.length c, .func (.func F) #[] #[]] w fun e w' => Found vs.length p w e w' := by
  have hsm := hE.small
  have HE := Lib.hid hE
  have HP := Lib.hid hP
  clear hE hP
  go_enter Tryd.func109, Tryd.ntmps109
  go_wp2_with fail
  go_loopw [5, 8] (fun _ i wr => ∃ k : Nat, k ≤ vs.length ∧ i = .int .i64 k ∧ (∀ j, j < k → p j = false) ∧ Below w.heap.size w wr) (fun _ i _ => vs.length - (intOf i).toNat)
  case atStart => exact ⟨0, Nat.zero_le _, rfl, fun j hj => absurd hj (Nat.not_lt_zero _), Below.refl _ _⟩
  case round =>
    obtain ⟨k, hk, rfl, hno, hB⟩ := hrel
    have HN := Lib.hid hno
    have HB := Lib.hid hB
    clear hno hB
    by_cases hlt : k < vs.length
    · obtain ⟨ad, rfl, hc⟩ := (HE.out.below HB.out).at_ k hlt
      obtain ⟨v, hv⟩ : ∃ v, v = vs[k]'hlt := ⟨_, rfl⟩
      rw [← hv] at hc
      have hC := HP.out k hlt wr HB.out
      rw [← hv] at hC
      obtain ⟨b, hb⟩ : ∃ b, p k = b := ⟨_, rfl⟩
      rw [hb] at hC
      have HC := Lib.hid hC
      have HBK := Lib.hid hb
      clear hC hv hb
      have hf := hF #[v]
      go_wp2_with fail
      refine HC.out.mono ?_
      rintro e w2 ⟨rfl, hb2⟩
      have HB2 := Lib.hid (HB.out.trans (hb2.mono HB.out.size))
      clear hb2 hc hf
      cases b
      · go_wp2_with fail
        go_roundw
        case rel =>
          refine ⟨k + 1, by omega, by go_num, fun j hj => ?_, HB2.out⟩
          by_cases hjk : j < k
          · exact HN.out j hjk
          · have : j = k := by omega
            rw [this]
            exact HBK.out
        case measure => simp [intOf]; omega
      · go_wp2_with fail
        go_ret
        exact ⟨k, rfl, by rw [any_hit hlt HBK.out, decide_eq_true (by omega)], HB2.out⟩
    · go_wp2_with fail
      go_ret
      have hkn : k = vs.length := by omega
      exact ⟨-1, rfl, by rw [any_none (fun j hj => HN.out j (by omega))]; rfl, HB.out⟩
theorem containsFunc_80 (F : Nat) (A : Option Addr) (c : Nat) (vs : List Value) (p : Nat → Bool) (w : World) (hE : Elems w A vs.length vs) (hF : Enters F) (hP : PredAt F w vs p) :
    Calls Tryd.prog 80 #[.slice A vs.length c, .func (.func F) #[] #[]] w fun e w' => e = .returned (.bool ((List.range vs.length).any p)) ∧ Below w.heap.size w w' := by
  have H := Lib.hid (indexFunc_109 F A c vs p w hE hF hP)
  clear hE hF hP
  go_enter Tryd.func80, Tryd.ntmps80
  go_wp2_with fail
  refine H.out.mono ?_
  rintro e w' ⟨i, rfl, hi, hB⟩
  have HI := Lib.hid hi
  have HB := Lib.hid hB
  clear hi hB
  go_wp2_with fail
  go_ret
  rw [← HI.out]
  exact ⟨rfl, HB.out⟩

set_option maxHeartbeats 1000000 in
theorem indexFunc_110 (F : Nat) (A : Option Addr) (c : Nat) (vs : List Value) (p : Nat → Bool) (w : World) (hE : Elems w A vs.length vs) (hF : Enters F) (hP : PredAt F w vs p) :
    Calls Tryd.prog 110 #[.slice A vs.length c, .func (.func F) #[] #[]] w fun e w' => Found vs.length p w e w' := by
  have hsm := hE.small
  have HE := Lib.hid hE
  have HP := Lib.hid hP
  clear hE hP
  go_enter Tryd.func110, Tryd.ntmps110
  go_wp2_with fail
  go_loopw [5, 8] (fun _ i wr => ∃ k : Nat, k ≤ vs.length ∧ i = .int .i64 k ∧ (∀ j, j < k → p j = false) ∧ Below w.heap.size w wr) (fun _ i _ => vs.length - (intOf i).toNat)
  case atStart => exact ⟨0, Nat.zero_le _, rfl, fun j hj => absurd hj (Nat.not_lt_zero _), Below.refl _ _⟩
  case round =>
    obtain ⟨k, hk, rfl, hno, hB⟩ := hrel
    have HN := Lib.hid hno
    have HB := Lib.hid hB
    clear hno hB
    by_cases hlt : k < vs.length
    · obtain ⟨ad, rfl, hc⟩ := (HE.out.below HB.out).at_ k hlt
      obtain ⟨v, hv⟩ : ∃ v, v = vs[k]'hlt := ⟨_, rfl⟩
      rw [← hv] at hc
      have hC := HP.out k hlt wr HB.out
      rw [← hv] at hC
      obtain ⟨b, hb⟩ : ∃ b, p k = b := ⟨_, rfl⟩
      rw [hb] at hC
      have HC := Lib.hid hC
      have HBK := Lib.hid hb
      clear hC hv hb
      have hf := hF #[v]
      go_wp2_with fail
      refine HC.out.mono ?_
      rintro e w2 ⟨rfl, hb2⟩
      have HB2 := Lib.hid (HB.out.trans (hb2.mono HB.out.size))
      clear hb2 hc hf
      cases b
      · go_wp2_with fail
        go_roundw
        case rel =>
          refine ⟨k + 1, by omega, by go_num, fun j hj => ?_, HB2.out⟩
          by_cases hjk : j < k
          · exact HN.out j hjk
          · have : j = k := by omega
            rw [this]
            exact HBK.out
        case measure => simp [intOf]; omega
      · go_wp2_with fail
        go_ret
        exact ⟨k, rfl, by rw [any_hit hlt HBK.out, decide_eq_true (by omega)], HB2.out⟩
    · go_wp2_with fail
      go_ret
      have hkn : k = vs.length := by omega
      exact ⟨-1, rfl, by rw [any_none (fun j hj => HN.out j (by omega))]; rfl, HB.out⟩
theorem containsFunc_82 (F : Nat) (A : Option Addr) (c : Nat) (vs : List Value) (p : Nat → Bool) (w : World) (hE : Elems w A vs.length vs) (hF : Enters F) (hP : PredAt F w vs p) :
    Calls Tryd.prog 82 #[.slice A vs.length c, .func (.func F) #[] #[]] w fun e w' => e = .returned (.bool ((List.range vs.length).any p)) ∧ Below w.heap.size w w' := by
  have H := Lib.hid (indexFunc_110 F A c vs p w hE hF hP)
  clear hE hF hP
  go_enter Tryd.func82, Tryd.ntmps82
  go_wp2_with fail
  refine H.out.mono ?_
  rintro e w' ⟨i, rfl, hi, hB⟩
  have HI := Lib.hid hi
  have HB := Lib.hid hB
  clear hi hB
  go_wp2_with fail
  go_ret
  rw [← HI.out]
  exact ⟨rfl, HB.out⟩
end Go.Proofs.YtdgifgdadminbaaDoor

/-! ### Xp -/
set_option linter.unusedSimpArgs false
set_option linter.unusedVariables false
set_option maxRecDepth 100000
namespace Go.Proofs.YtdgifgdadminbaaDoor
open Go.RowKit Go.Proofs.YtdgifgdadminbaaDoorW.PrintWords Sp
open PFileParses (wrap_id ba_len toList_data info3 info2 info9)

theorem elems_int {w : World} {A : Option Addr} {n : Nat} {xs : List Int} (h : (Kd.int .i64).C w A n xs) : Elems w A (xs.map (Value.int .i64)).length (xs.map (Value.int .i64)) := by
  have hl : xs.length = n := h.1
  refine ⟨rfl, by rw [List.length_map, hl]; exact h.2.1, fun j hj => ?_⟩
  rw [List.length_map] at hj
  obtain ⟨ad, e, hc⟩ := Kd.at_int h (j : Int) (by omega) (by omega)
  refine ⟨ad, e, ?_⟩
  rw [Int.toNat_natCast] at hc
  rw [hc, List.getElem_map]
  unfold rd
  rw [Int.toNat_natCast, List.getD_eq_getElem?_getD, List.getElem?_eq_getElem hj]
  rfl
theorem elems_row {w : World} {A : Option Addr} {n : Nat} {e : Nat} {xs : List (List Int)} (h : (Kd.slice e (Kd.int .i64)).C w A n xs) :
    ∃ vs : List Value, Elems w A vs.length vs ∧ vs.length = xs.length ∧ ∀ j (h1 : j < vs.length) (h2 : j < xs.length), ∃ A' c', vs[j]'h1 = .slice A' (xs[j]'h2).length c' ∧ (xs[j]'h2).length ≤ c' ∧ (Kd.int .i64).C w A' (xs[j]'h2).length (xs[j]'h2) := by
  have hl : xs.length = n := h.1
  have key : ∀ j (h2 : j < xs.length), ∃ v ad, A = some ad ∧ w.cell? (ad.add j) = some v ∧ ∃ A' c', v = .slice A' (xs[j]'h2).length c' ∧ (xs[j]'h2).length ≤ c' ∧ (Kd.int .i64).C w A' (xs[j]'h2).length (xs[j]'h2) := by
    intro j h2
    obtain ⟨ad, ea, hc⟩ := h.2.2 (by omega)
    obtain ⟨c, _, ⟨A', c', rfl, k1, k2⟩, hcell⟩ := hc j _ (List.getElem?_eq_getElem h2)
    have hz := hcell 0 _ rfl
    refine ⟨_, ad, ea, ?_, A', c', rfl, k1, k2⟩
    rw [← hz]
    congr 2
    show j = j * 1 + 0
    omega
  refine ⟨(List.range xs.length).map fun j => if h2 : j < xs.length then (key j h2).choose else undef, ⟨rfl, ?_, ?_⟩, by simp, ?_⟩
  · rw [List.length_map, List.length_range, hl]; exact h.2.1
  · intro j hj
    have h2 : j < xs.length := by simpa using hj
    obtain ⟨ad, ea, hc, _⟩ := (key j h2).choose_spec
    refine ⟨ad, ea, ?_⟩
    rw [hc, List.getElem_map, List.getElem_range, dif_pos h2]
  · intro j h1 h2
    obtain ⟨ad, ea, hc, r⟩ := (key j h2).choose_spec
    rw [List.getElem_map, List.getElem_range, dif_pos h2]
    exact r
theorem range_any {α : Type} (xs : List α) (q : α → Bool) (d : α) : (List.range xs.length).any (fun j => q (xs.getD j d)) = xs.any q := by
  rw [Bool.eq_iff_iff, List.any_eq_true, List.any_eq_true]
  constructor
  · rintro ⟨j, hj, h⟩
    have hj := List.mem_range.1 hj
    rw [List.getD_eq_getElem?_getD, List.getElem?_eq_getElem hj] at h
    exact ⟨_, List.getElem_mem hj, h⟩
  · rintro ⟨x, hx, h⟩
    obtain ⟨j, hj, rfl⟩ := List.getElem_of_mem hx
    refine ⟨j, List.mem_range.2 hj, ?_⟩
    rw [List.getD_eq_getElem?_getD, List.getElem?_eq_getElem hj]
    exact h

theorem out_79 (n : Int) (w : World) : Calls Tryd.prog 79 #[.int .i64 n] w fun e w' => e = .returned (.bool (outB n)) ∧ Below w.heap.size w w' := by
  by_cases h : n < 0
  · have hb : decide (n < 0) = true := decide_eq_true h
    have ho : outB n = true := by unfold outB; rw [hb]; rfl
    rw [ho]
    clear h
    go_enter Tryd.func79, Tryd.ntmps79
    go_wp2_with fail
    go_ret
    exact ⟨rfl, Below.refl _ _⟩
  · have hb : decide (n < 0) = false := decide_eq_false h
    have ho : outB n = decide (1099511627776 < n) := by unfold outB; rw [hb]; rfl
    rw [ho]
    clear h
    go_enter Tryd.func79, Tryd.ntmps79
    go_wp2_with fail
    go_ret
    exact ⟨rfl, Below.refl _ _⟩
theorem out_83 (n : Int) (w : World) : Calls Tryd.prog 83 #[.int .i64 n] w fun e w' => e = .returned (.bool (outB n)) ∧ Below w.heap.size w w' := by
  by_cases h : n < 0
  · have hb : decide (n < 0) = true := decide_eq_true h
    have ho : outB n = true := by unfold outB; rw [hb]; rfl
    rw [ho]
    clear h
    go_enter Tryd.func83, Tryd.ntmps83
    go_wp2_with fail
    go_ret
    exact ⟨rfl, Below.refl _ _⟩
  · have hb : decide (n < 0) = false := decide_eq_false h
    have ho : outB n = decide (1099511627776 < n) := by unfold outB; rw [hb]; rfl
    rw [ho]
    clear h
    go_enter Tryd.func83, Tryd.ntmps83
    go_wp2_with fail
    go_ret
    exact ⟨rfl, Below.refl _ _⟩

theorem pred_int {F : Nat} (hF : ∀ (n : Int) (w : World), Calls Tryd.prog F #[.int .i64 n] w fun e w' => e = .returned (.bool (outB n)) ∧ Below w.heap.size w w') (xs : List Int) (w : World) : PredAt F w (xs.map (Value.int .i64)) (fun j => outB (xs.getD j 0)) := by
  intro j hj w' hb
  have h2 : j < xs.length := by simpa using hj
  rw [List.getElem_map]
  dsimp only
  rw [List.getD_eq_getElem?_getD, List.getElem?_eq_getElem h2]
  exact hF _ _
theorem anyOut_78 (A : Option Addr) (c : Nat) (xs : List Int) (w : World) (hC : (Kd.int .i64).C w A xs.length xs) :
    Calls Tryd.prog 78 #[.slice A xs.length c, .func (.func 79) #[] #[]] w fun e w' => e = .returned (.bool (xs.any outB)) ∧ Below w.heap.size w w' := by
  have h := containsFunc_78 79 A c (xs.map (Value.int .i64)) (fun j => outB (xs.getD j 0)) w (elems_int hC) enters_79 (pred_int out_79 xs w)
  rw [List.length_map, range_any xs outB 0] at h
  exact h
theorem anyOut_82 (A : Option Addr) (c : Nat) (xs : List Int) (w : World) (hC : (Kd.int .i64).C w A xs.length xs) :
    Calls Tryd.prog 82 #[.slice A xs.length c, .func (.func 83) #[] #[]] w fun e w' => e = .returned (.bool (xs.any outB)) ∧ Below w.heap.size w w' := by
  have h := containsFunc_82 83 A c (xs.map (Value.int .i64)) (fun j => outB (xs.getD j 0)) w (elems_int hC) enters_83 (pred_int out_83 xs w)
  rw [List.length_map, range_any xs outB 0] at h
  exact h
theorem row_77 (A : Option Addr) (c : Nat) (xs : List Int) (w : World) (hC : (Kd.int .i64).C w A xs.length xs) :
    Calls Tryd.prog 77 #[.slice A xs.length c] w fun e w' => e = .returned (.bool (xs.any outB)) ∧ Below w.heap.size w w' := by
  have H := Lib.hid (anyOut_78 A c xs w hC)
  clear hC
  go_enter Tryd.func77, Tryd.ntmps77
  go_wp2_with fail
  refine H.out.mono ?_
  rintro e w' ⟨rfl, hB⟩
  have HB := Lib.hid hB
  clear hB
  go_wp2_with fail
  go_ret
  exact ⟨rfl, HB.out⟩
theorem row_81 (A : Option Addr) (c : Nat) (xs : List Int) (w : World) (hC : (Kd.int .i64).C w A xs.length xs) :
    Calls Tryd.prog 81 #[.slice A xs.length c] w fun e w' => e = .returned (.bool (xs.any outB)) ∧ Below w.heap.size w w' := by
  have H := Lib.hid (anyOut_82 A c xs w hC)
  clear hC
  go_enter Tryd.func81, Tryd.ntmps81
  go_wp2_with fail
  refine H.out.mono ?_
  rintro e w' ⟨rfl, hB⟩
  have HB := Lib.hid hB
  clear hB
  go_wp2_with fail
  go_ret
  exact ⟨rfl, HB.out⟩
def longB (r : List Int) : Bool := decide (4096 < r.length)
theorem row_76 (A : Option Addr) (c : Nat) (xs : List Int) (w : World) (hl : xs.length ≤ 9223372036854775807) :
    Calls Tryd.prog 76 #[.slice A xs.length c] w fun e w' => e = .returned (.bool (longB xs)) ∧ Below w.heap.size w w' := by
  have hd : longB xs = decide ((4096 : Int) < (xs.length : Int)) := by
    unfold longB
    rw [decide_eq_decide]
    omega
  rw [hd]
  clear hd
  go_enter Tryd.func76, Tryd.ntmps76
  go_wp2_with fail
  go_ret
  exact ⟨rfl, Below.refl _ _⟩
theorem anyRow {f F e : Nat} (q : List Int → Bool) (hf : ∀ (A : Option Addr) (c : Nat) (vs : List Value) (p : Nat → Bool) (w : World), Elems w A vs.length vs → PredAt F w vs p →
      Calls Tryd.prog f #[.slice A vs.length c, .func (.func F) #[] #[]] w fun e w' => e = .returned (.bool ((List.range vs.length).any p)) ∧ Below w.heap.size w w')
    (hF : ∀ (A : Option Addr) (c : Nat) (xs : List Int) (w : World), (Kd.int .i64).C w A xs.length xs → Calls Tryd.prog F #[.slice A xs.length c] w fun e w' => e = .returned (.bool (q xs)) ∧ Below w.heap.size w w')
    (A : Option Addr) (c : Nat) (xs : List (List Int)) (w : World) (hC : (Kd.slice e (Kd.int .i64)).C w A xs.length xs) :
    Calls Tryd.prog f #[.slice A xs.length c, .func (.func F) #[] #[]] w fun e w' => e = .returned (.bool (xs.any q)) ∧ Below w.heap.size w w' := by
  obtain ⟨vs, hE, hl, hv⟩ := elems_row hC
  have h := hf A c vs (fun j => q (xs.getD j [])) w hE (by
    intro j hj w' hb
    have h2 : j < xs.length := by omega
    obtain ⟨A', c', e1, _, e3⟩ := hv j hj h2
    rw [e1]
    dsimp only
    rw [List.getD_eq_getElem?_getD, List.getElem?_eq_getElem h2]
    exact hF A' c' _ w' (Kd.C_below e3 hb))
  rw [hl, range_any xs q []] at h
  exact h
theorem anyLong_75 (A : Option Addr) (c : Nat) (xs : List (List Int)) (w : World) (hC : kRow.C w A xs.length xs) :
    Calls Tryd.prog 75 #[.slice A xs.length c, .func (.func 76) #[] #[]] w fun e w' => e = .returned (.bool (xs.any longB)) ∧ Below w.heap.size w w' :=
  anyRow longB (fun A c vs p w hE hP => containsFunc_75 76 A c vs p w hE enters_76 hP) (fun A c xs w hC => row_76 A c xs w hC.2.1) A c xs w hC
theorem anyOut_75 (A : Option Addr) (c : Nat) (xs : List (List Int)) (w : World) (hC : kRow.C w A xs.length xs) :
    Calls Tryd.prog 75 #[.slice A xs.length c, .func (.func 77) #[] #[]] w fun e w' => e = .returned (.bool (xs.any fun r => r.any outB)) ∧ Below w.heap.size w w' :=
  anyRow (fun r => r.any outB) (fun A c vs p w hE hP => containsFunc_75 77 A c vs p w hE enters_77 hP) row_77 A c xs w hC
theorem anyOut_80 (A : Option Addr) (c : Nat) (xs : List (List Int)) (w : World) (hC : kTim.C w A xs.length xs) :
    Calls Tryd.prog 80 #[.slice A xs.length c, .func (.func 81) #[] #[]] w fun e w' => e = .returned (.bool (xs.any fun r => r.any outB)) ∧ Below w.heap.size w w' :=
  anyRow (fun r => r.any outB) (fun A c vs p w hE hP => containsFunc_80 81 A c vs p w hE enters_81 hP) row_81 A c xs w hC
end Go.Proofs.YtdgifgdadminbaaDoor

/-! ### Xm -/
set_option linter.unusedSimpArgs false
set_option linter.unusedVariables false
set_option maxRecDepth 100000
namespace Go.Proofs.YtdgifgdadminbaaDoor
open Go.RowKit Go.Proofs.YtdgifgdadminbaaDoorW.PrintWords Sp
open PFileParses (wrap_id ba_len toList_data info3 info2 info9)

set_option maxHeartbeats 1000000 in
theorem many_c (rv tv lv : Value) (p : Pl) (w : World) (hp : PlanAt rv tv lv p w) :
    Calls Tryd.prog 42 #[.agg #[rv, tv, lv, .int .i64 p.cost]] w fun e w' => e = .returned (.bool (manyB p)) ∧ Below w.heap.size w w' := by
  obtain ⟨⟨A1, c1, rfl, l1, h1⟩, ⟨A2, c2, rfl, l2, h2⟩, ⟨A3, c3, rfl, l3, h3⟩⟩ := hp
  have s1 := h1.2.1
  have s3 := h3.2.1
  have hW := (Below.refl w.heap.size w).alloc (Nat.le_refl _) (.cells #[.slice A1 p.routes.length c1, .slice A2 p.times.length c2, .slice A3 p.left.length c3, .int .i64 p.cost] 27)
  have hX := anyLong_75 A1 c1 p.routes _ (Kd.C_below h1 hW)
  have HX := Lib.hid hX
  have HW := Lib.hid hW
  obtain ⟨b, hb⟩ : ∃ b, manyB p = b := ⟨_, rfl⟩
  have HM := Lib.hid hb
  rw [hb]
  clear hX hW h1 h2 h3 hb
  by_cases k1 : 64 < p.routes.length
  · have b1 : decide ((64 : Int) < (p.routes.length : Int)) = true := decide_eq_true (by omega)
    have hm : b = true := by rw [← HM.out]; unfold manyB; rw [decide_eq_true k1]; rfl
    subst hm
    clear k1
    go_enter Tryd.func42, Tryd.ntmps42
    go_wp2_with fail
    go_ret
    exact ⟨rfl, HW.out⟩
  · have b1 : decide ((64 : Int) < (p.routes.length : Int)) = false := decide_eq_false (by omega)
    by_cases k2 : 4096 < p.left.length
    · have b2 : decide ((4096 : Int) < (p.left.length : Int)) = true := decide_eq_true (by omega)
      have hm : b = true := by rw [← HM.out]; unfold manyB; rw [decide_eq_true k2, Bool.or_true]; rfl
      subst hm
      clear k1 k2
      go_enter Tryd.func42, Tryd.ntmps42
      go_wp2_with fail
      go_ret
      exact ⟨rfl, HW.out⟩
    · have b2 : decide ((4096 : Int) < (p.left.length : Int)) = false := decide_eq_false (by omega)
      have hm : p.routes.any longB = b := by rw [← HM.out]; unfold manyB longB; rw [decide_eq_false k1, decide_eq_false k2]; rfl
      rw [hm] at HX
      have HX2 := Lib.hid HX.out
      clear k1 k2 hm HX
      go_enter Tryd.func42, Tryd.ntmps42
      go_wp2_with fail
      refine HX2.out.mono ?_
      rintro e w' ⟨rfl, hB⟩
      have HB := Lib.hid hB
      clear hB
      go_wp2_with fail
      go_ret
      exact ⟨rfl, HW.out.trans (HB.out.mono (by have := HW.out.size; omega))⟩

set_option maxHeartbeats 2000000 in
theorem ranged_c (rv tv lv : Value) (p : Pl) (w : World) (hp : PlanAt rv tv lv p w) :
    Calls Tryd.prog 44 #[.agg #[rv, tv, lv, .int .i64 p.cost]] w fun e w' => e = .returned (.bool (rangedB p)) ∧ Below w.heap.size w w' := by
  obtain ⟨⟨A1, c1, rfl, l1, h1⟩, ⟨A2, c2, rfl, l2, h2⟩, ⟨A3, c3, rfl, l3, h3⟩⟩ := hp
  obtain ⟨W, hW⟩ : ∃ W, W = w.alloc (.cells #[.slice A1 p.routes.length c1, .slice A2 p.times.length c2, .slice A3 p.left.length c3, .int .i64 p.cost] 27) := ⟨_, rfl⟩
  have hB : Below w.heap.size w W := by rw [hW]; exact (Below.refl w.heap.size w).alloc (Nat.le_refl _) _
  have hn : W.heap[w.heap.size]? = some (.cells #[.slice A1 p.routes.length c1, .slice A2 p.times.length c2, .slice A3 p.left.length c3, .int .i64 p.cost] 27 (0, 0)) := by rw [hW]; exact heap_alloc_new w _
  have hsz : w.heap.size < W.heap.size := by rw [hW]; simp
  have H1 := Lib.hid (Kd.C_below h1 hB)
  have H2 := Lib.hid (Kd.C_below h2 hB)
  have H3 := Lib.hid (Kd.C_below h3 hB)
  have HN := Lib.hid hn
  have HB := Lib.hid hB
  have HW := Lib.hid hW
  obtain ⟨bR, hR⟩ : ∃ b, p.routes.any (fun r => r.any outB) = b := ⟨_, rfl⟩
  obtain ⟨bT, hT⟩ : ∃ b, p.times.any (fun r => r.any outB) = b := ⟨_, rfl⟩
  obtain ⟨bL, hL⟩ : ∃ b, p.left.any outB = b := ⟨_, rfl⟩
  have hspec : rangedB p = (!bR && !bT && !bL && !outB p.cost) := by unfold rangedB; rw [hR, hT, hL]
  have hX := anyOut_75 A1 c1 p.routes W H1.out
  rw [hR] at hX
  have HX := Lib.hid hX
  have hY := fun w2 (hb : Below W.heap.size W w2) => anyOut_80 A2 c2 p.times w2 (Kd.C_below H2.out hb)
  rw [hT] at hY
  have HY := Lib.hid hY
  have hZ := fun w2 (hb : Below W.heap.size W w2) => anyOut_78 A3 c3 p.left w2 (Kd.C_below H3.out hb)
  rw [hL] at hZ
  have HZ := Lib.hid hZ
  rw [hspec]
  have n3 : W.cell? ⟨w.heap.size, 3, none⟩ = some (.int .i64 p.cost) := cell_of_heap hn 3 rfl
  have n0 : W.cell? ⟨w.heap.size, 0, none⟩ = some (.slice A1 p.routes.length c1) := cell_of_heap hn 0 rfl
  have n1 : W.cell? ⟨w.heap.size, 1, none⟩ = some (.slice A2 p.times.length c2) := cell_of_heap hn 1 rfl
  have n2 : W.cell? ⟨w.heap.size, 2, none⟩ = some (.slice A3 p.left.length c3) := cell_of_heap hn 2 rfl
  have N := Lib.hid (And.intro n0 (And.intro n1 (And.intro n2 n3)))
  clear h1 h2 h3 hB hn hW hR hT hL hX hY hZ hspec n1 n2 n3
  go_enter Tryd.func44, Tryd.ntmps44
  go_upto_region 1 with fail
  rw [← HW.out]
  go_wp2_with fail
  refine HX.out.mono ?_
  rintro e w2 ⟨rfl, hb2⟩
  have m1 := cell_below N.out.2.1 hb2
  have HB2 := Lib.hid hb2
  clear hb2 n0
  go_wp2_with fail
  refine (HY.out w2 HB2.out).mono ?_
  rintro e w3 ⟨rfl, hb3⟩
  have hb23 := HB2.out.trans (hb3.mono HB2.out.size)
  have HB3 := Lib.hid hb23
  clear hb3 hb23 m1
  cases bR
  · cases bT
    · have m2 := cell_below N.out.2.2.1 HB3.out
      go_wp2_with fail
      refine (HZ.out w3 HB3.out).mono ?_
      rintro e w4 ⟨rfl, hb4⟩
      have hb24 := HB3.out.trans (hb4.mono HB3.out.size)
      have HB4 := Lib.hid hb24
      clear hb4 hb24 m2
      cases bL
      · have m3 := cell_below N.out.2.2.2 HB4.out
        go_wp2_with fail
        refine (out_83 p.cost w4).mono ?_
        rintro e w5 ⟨rfl, hb5⟩
        have HB5 := Lib.hid hb5
        clear hb5 m3
        go_wp2_with fail
        go_ret
        exact ⟨rfl, (HB.out.trans (HB4.out.mono (by omega))).trans (HB5.out.mono (by have := HB4.out.size; omega))⟩
      · go_wp2_with fail
        go_ret
        exact ⟨rfl, HB.out.trans (HB4.out.mono (by omega))⟩
    · go_wp2_with fail
      go_ret
      exact ⟨rfl, HB.out.trans (HB3.out.mono (by omega))⟩
  · go_wp2_with fail
    go_ret
    exact ⟨rfl, HB.out.trans (HB3.out.mono (by omega))⟩
end Go.Proofs.YtdgifgdadminbaaDoor
